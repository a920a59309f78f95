/- The law TreelabelHeads answers true for every input, and each argument reads behind the call as it read before. (Part 3.) -/
import Derived.Test.YthjcmodhleoocaaMHds1
import Derived.WalkMore
import Derived.Test.YthjcmodhleoocaaMHds2
import Derived.Handy
set_option linter.unusedVariables false
set_option linter.unusedSimpArgs false
set_option linter.unusedSectionVars false
/- FDependCheck -/
namespace Go.Proofs.Ythjcmodhleoocaa.Q
open Go.RowKit Go.Proofs.YthjcmodhleoocaaW.PrintWords Go.Proofs.YthjcmodhleoocaaW.PrintLast Go.Proofs.YthjcmodhleoocaaW.PrintMore
attribute [local go_sem] max2_int min2_int max_two min_two max_three min_three max_four min_four   -- for this text's walks alone
set_option linter.unusedVariables false
set_option linter.unusedSimpArgs false

/-! ### depend_Check: function 28 -/
mutual
def depend_Check.l0 : Nat → List Int → List Int → Int → Int → Option (Int × Int)
 | 0, _, _, _, _ => none
 | k + 1, x0, x15, x16, x17 => if x17 < x16 then (if 0 ≤ x17 then (if x17 < (x15.length : Int) then (if (rd x15 x17) < (-1) then (some (x17, 8)) else (if (rd x15 x17) ≥ (x0.length : Int) then (some (x17, 8)) else (depend_Check.l0 k x0 x15 x16 (wrap64 (x17 + 1))))) else (none)) else (none)) else (if 0 ≤ (x0.length : Int) then (if ((x0.length : Int) : Int).toNat ≤ 35184372088832 then (depend_Check.l1 k x0 (List.replicate ((x0.length : Int) : Int).toNat 0) (-1) (x0.length : Int) 0) else (none)) else (none))
def depend_Check.l1 : Nat → List Int → List Int → Int → Int → Int → Option (Int × Int)
 | 0, _, _, _, _, _ => none
 | k + 1, x0, x6, x7, x36, x37 => if x37 < x36 then (depend_Check.l2 k x0 x6 x7 x37 x37 x36 x37) else (if x7 ≥ 0 then (some (x7, 12)) else (some (0, 0)))
def depend_Check.j3 : Nat → List Int → List Int → Int → Int → Int → Int → Int → Option (Int × Int)
 | 0, _, _, _, _, _, _, _ => none
 | k + 1, x0, x6, x7, x8, x9, x36, x37 => if x9 < 0 then (depend_Check.j4 k x0 x6 x7 x9 x36 x37 true) else (if 0 ≤ x9 then (if x9 < (x6.length : Int) then (depend_Check.j4 k x0 x6 x7 x9 x36 x37 ((rd x6 x9) != (wrap64 (x8 + 1)))) else (none)) else (none))
def depend_Check.j4 : Nat → List Int → List Int → Int → Int → Int → Int → Bool → Option (Int × Int)
 | 0, _, _, _, _, _, _, _ => none
 | k + 1, x0, x6, x7, x9, x36, x37, x69 => if x69 = true then (depend_Check.l1 k x0 x6 x7 x36 (wrap64 (x37 + 1))) else (depend_Check.l3 k x0 x6 x7 x9 x9 true x36 x37)
def depend_Check.l3 : Nat → List Int → List Int → Int → Int → Int → Bool → Int → Int → Option (Int × Int)
 | 0, _, _, _, _, _, _, _, _ => none
 | k + 1, x0, x6, x7, x9, x10, x11, x36, x37 => if x11 = true then (depend_Check.j6 k x0 x6 x7 x9 x10 x36 x37 true) else (depend_Check.j6 k x0 x6 x7 x9 x10 x36 x37 (x10 != x9))
def depend_Check.j6 : Nat → List Int → List Int → Int → Int → Int → Int → Int → Bool → Option (Int × Int)
 | 0, _, _, _, _, _, _, _, _ => none
 | k + 1, x0, x6, x7, x9, x10, x36, x37, x76 => if x76 = true then (if x7 < 0 then (if 0 ≤ x10 then (if x10 < (x0.length : Int) then (depend_Check.l3 k x0 x6 x10 x9 (rd x0 x10) false x36 x37) else (none)) else (none)) else (if x10 < x7 then (if 0 ≤ x10 then (if x10 < (x0.length : Int) then (depend_Check.l3 k x0 x6 x10 x9 (rd x0 x10) false x36 x37) else (none)) else (none)) else (if 0 ≤ x10 then (if x10 < (x0.length : Int) then (depend_Check.l3 k x0 x6 x7 x9 (rd x0 x10) false x36 x37) else (none)) else (none)))) else (depend_Check.l1 k x0 x6 x7 x36 (wrap64 (x37 + 1)))
def depend_Check.l2 : Nat → List Int → List Int → Int → Int → Int → Int → Int → Option (Int × Int)
 | 0, _, _, _, _, _, _, _ => none
 | k + 1, x0, x6, x7, x8, x9, x36, x37 => if x9 ≥ 0 then (if 0 ≤ x9 then (if x9 < (x6.length : Int) then (if (rd x6 x9) = 0 then (if x9 < (x0.length : Int) then (depend_Check.l2 k x0 (x6.set (x9 : Int).toNat (wrap64 (x8 + 1))) x7 x8 (rd x0 x9) x36 x37) else (none)) else (depend_Check.j3 k x0 x6 x7 x8 x9 x36 x37)) else (none)) else (none)) else (depend_Check.j3 k x0 x6 x7 x8 x9 x36 x37)
end
def depend_Check.f (k : Nat) (l0 : List Int) : Option (Int × Int) := if (l0.length : Int) > 4096 then (some (0, 2)) else (depend_Check.l0 k l0 l0 (l0.length : Int) 0)
theorem depend_Check.mono_l : ∀ k, (∀ y0 y1 y2 y3, LeO (depend_Check.l0 k y0 y1 y2 y3) (depend_Check.l0 (k + 1) y0 y1 y2 y3)) ∧ (∀ y0 y1 y2 y3 y4, LeO (depend_Check.l1 k y0 y1 y2 y3 y4) (depend_Check.l1 (k + 1) y0 y1 y2 y3 y4)) ∧ (∀ y0 y1 y2 y3 y4 y5 y6, LeO (depend_Check.j3 k y0 y1 y2 y3 y4 y5 y6) (depend_Check.j3 (k + 1) y0 y1 y2 y3 y4 y5 y6)) ∧ (∀ y0 y1 y2 y3 y4 y5 y6, LeO (depend_Check.j4 k y0 y1 y2 y3 y4 y5 y6) (depend_Check.j4 (k + 1) y0 y1 y2 y3 y4 y5 y6)) ∧ (∀ y0 y1 y2 y3 y4 y5 y6 y7, LeO (depend_Check.l3 k y0 y1 y2 y3 y4 y5 y6 y7) (depend_Check.l3 (k + 1) y0 y1 y2 y3 y4 y5 y6 y7)) ∧ (∀ y0 y1 y2 y3 y4 y5 y6 y7, LeO (depend_Check.j6 k y0 y1 y2 y3 y4 y5 y6 y7) (depend_Check.j6 (k + 1) y0 y1 y2 y3 y4 y5 y6 y7)) ∧ (∀ y0 y1 y2 y3 y4 y5 y6, LeO (depend_Check.l2 k y0 y1 y2 y3 y4 y5 y6) (depend_Check.l2 (k + 1) y0 y1 y2 y3 y4 y5 y6))
 | 0 => ⟨fun _ _ _ _ r h => by simp [depend_Check.l0] at h, fun _ _ _ _ _ r h => by simp [depend_Check.l1] at h, fun _ _ _ _ _ _ _ r h => by simp [depend_Check.j3] at h, fun _ _ _ _ _ _ _ r h => by simp [depend_Check.j4] at h, fun _ _ _ _ _ _ _ _ r h => by simp [depend_Check.l3] at h, fun _ _ _ _ _ _ _ _ r h => by simp [depend_Check.j6] at h, fun _ _ _ _ _ _ _ r h => by simp [depend_Check.l2] at h⟩
 | k + 1 => by
  obtain ⟨ih0, ih1, ih2, ih3, ih4, ih5, ih6⟩ := depend_Check.mono_l k
  refine ⟨?_, ?_, ?_, ?_, ?_, ?_, ?_⟩
  ·intro y0 y1 y2 y3
   unfold depend_Check.l0
   repeat' first
   | (with_reducible exact ih0 _ _ _ _)
   | (with_reducible exact ih1 _ _ _ _ _)
   | (with_reducible exact ih2 _ _ _ _ _ _ _)
   | (with_reducible exact ih3 _ _ _ _ _ _ _)
   | (with_reducible exact ih4 _ _ _ _ _ _ _ _)
   | (with_reducible exact ih5 _ _ _ _ _ _ _ _)
   | (with_reducible exact ih6 _ _ _ _ _ _ _)
   | (with_reducible exact LeO.refl _)
   | (with_reducible exact LeO.none _)
   | (with_reducible refine LeO.ite ?_ ?_)
   | (with_reducible refine LeO.bind ?_ (fun _ => ?_))
   | exact ih0 _ _ _ _
   | exact ih1 _ _ _ _ _
   | exact ih2 _ _ _ _ _ _ _
   | exact ih3 _ _ _ _ _ _ _
   | exact ih4 _ _ _ _ _ _ _ _
   | exact ih5 _ _ _ _ _ _ _ _
   | exact ih6 _ _ _ _ _ _ _
   | exact LeO.none _
   | refine LeO.ite ?_ ?_
   | refine LeO.bind ?_ (fun _ => ?_)
  ·intro y0 y1 y2 y3 y4
   unfold depend_Check.l1
   repeat' first
   | (with_reducible exact ih0 _ _ _ _)
   | (with_reducible exact ih1 _ _ _ _ _)
   | (with_reducible exact ih2 _ _ _ _ _ _ _)
   | (with_reducible exact ih3 _ _ _ _ _ _ _)
   | (with_reducible exact ih4 _ _ _ _ _ _ _ _)
   | (with_reducible exact ih5 _ _ _ _ _ _ _ _)
   | (with_reducible exact ih6 _ _ _ _ _ _ _)
   | (with_reducible exact LeO.refl _)
   | (with_reducible exact LeO.none _)
   | (with_reducible refine LeO.ite ?_ ?_)
   | (with_reducible refine LeO.bind ?_ (fun _ => ?_))
   | exact ih0 _ _ _ _
   | exact ih1 _ _ _ _ _
   | exact ih2 _ _ _ _ _ _ _
   | exact ih3 _ _ _ _ _ _ _
   | exact ih4 _ _ _ _ _ _ _ _
   | exact ih5 _ _ _ _ _ _ _ _
   | exact ih6 _ _ _ _ _ _ _
   | exact LeO.none _
   | refine LeO.ite ?_ ?_
   | refine LeO.bind ?_ (fun _ => ?_)
  ·intro y0 y1 y2 y3 y4 y5 y6
   unfold depend_Check.j3
   repeat' first
   | (with_reducible exact ih0 _ _ _ _)
   | (with_reducible exact ih1 _ _ _ _ _)
   | (with_reducible exact ih2 _ _ _ _ _ _ _)
   | (with_reducible exact ih3 _ _ _ _ _ _ _)
   | (with_reducible exact ih4 _ _ _ _ _ _ _ _)
   | (with_reducible exact ih5 _ _ _ _ _ _ _ _)
   | (with_reducible exact ih6 _ _ _ _ _ _ _)
   | (with_reducible exact LeO.refl _)
   | (with_reducible exact LeO.none _)
   | (with_reducible refine LeO.ite ?_ ?_)
   | (with_reducible refine LeO.bind ?_ (fun _ => ?_))
   | exact ih0 _ _ _ _
   | exact ih1 _ _ _ _ _
   | exact ih2 _ _ _ _ _ _ _
   | exact ih3 _ _ _ _ _ _ _
   | exact ih4 _ _ _ _ _ _ _ _
   | exact ih5 _ _ _ _ _ _ _ _
   | exact ih6 _ _ _ _ _ _ _
   | exact LeO.none _
   | refine LeO.ite ?_ ?_
   | refine LeO.bind ?_ (fun _ => ?_)
  ·intro y0 y1 y2 y3 y4 y5 y6
   unfold depend_Check.j4
   repeat' first
   | (with_reducible exact ih0 _ _ _ _)
   | (with_reducible exact ih1 _ _ _ _ _)
   | (with_reducible exact ih2 _ _ _ _ _ _ _)
   | (with_reducible exact ih3 _ _ _ _ _ _ _)
   | (with_reducible exact ih4 _ _ _ _ _ _ _ _)
   | (with_reducible exact ih5 _ _ _ _ _ _ _ _)
   | (with_reducible exact ih6 _ _ _ _ _ _ _)
   | (with_reducible exact LeO.refl _)
   | (with_reducible exact LeO.none _)
   | (with_reducible refine LeO.ite ?_ ?_)
   | (with_reducible refine LeO.bind ?_ (fun _ => ?_))
   | exact ih0 _ _ _ _
   | exact ih1 _ _ _ _ _
   | exact ih2 _ _ _ _ _ _ _
   | exact ih3 _ _ _ _ _ _ _
   | exact ih4 _ _ _ _ _ _ _ _
   | exact ih5 _ _ _ _ _ _ _ _
   | exact ih6 _ _ _ _ _ _ _
   | exact LeO.none _
   | refine LeO.ite ?_ ?_
   | refine LeO.bind ?_ (fun _ => ?_)
  ·intro y0 y1 y2 y3 y4 y5 y6 y7
   unfold depend_Check.l3
   repeat' first
   | (with_reducible exact ih0 _ _ _ _)
   | (with_reducible exact ih1 _ _ _ _ _)
   | (with_reducible exact ih2 _ _ _ _ _ _ _)
   | (with_reducible exact ih3 _ _ _ _ _ _ _)
   | (with_reducible exact ih4 _ _ _ _ _ _ _ _)
   | (with_reducible exact ih5 _ _ _ _ _ _ _ _)
   | (with_reducible exact ih6 _ _ _ _ _ _ _)
   | (with_reducible exact LeO.refl _)
   | (with_reducible exact LeO.none _)
   | (with_reducible refine LeO.ite ?_ ?_)
   | (with_reducible refine LeO.bind ?_ (fun _ => ?_))
   | exact ih0 _ _ _ _
   | exact ih1 _ _ _ _ _
   | exact ih2 _ _ _ _ _ _ _
   | exact ih3 _ _ _ _ _ _ _
   | exact ih4 _ _ _ _ _ _ _ _
   | exact ih5 _ _ _ _ _ _ _ _
   | exact ih6 _ _ _ _ _ _ _
   | exact LeO.none _
   | refine LeO.ite ?_ ?_
   | refine LeO.bind ?_ (fun _ => ?_)
  ·intro y0 y1 y2 y3 y4 y5 y6 y7
   unfold depend_Check.j6
   repeat' first
   | (with_reducible exact ih0 _ _ _ _)
   | (with_reducible exact ih1 _ _ _ _ _)
   | (with_reducible exact ih2 _ _ _ _ _ _ _)
   | (with_reducible exact ih3 _ _ _ _ _ _ _)
   | (with_reducible exact ih4 _ _ _ _ _ _ _ _)
   | (with_reducible exact ih5 _ _ _ _ _ _ _ _)
   | (with_reducible exact ih6 _ _ _ _ _ _ _)
   | (with_reducible exact LeO.refl _)
   | (with_reducible exact LeO.none _)
   | (with_reducible refine LeO.ite ?_ ?_)
   | (with_reducible refine LeO.bind ?_ (fun _ => ?_))
   | exact ih0 _ _ _ _
   | exact ih1 _ _ _ _ _
   | exact ih2 _ _ _ _ _ _ _
   | exact ih3 _ _ _ _ _ _ _
   | exact ih4 _ _ _ _ _ _ _ _
   | exact ih5 _ _ _ _ _ _ _ _
   | exact ih6 _ _ _ _ _ _ _
   | exact LeO.none _
   | refine LeO.ite ?_ ?_
   | refine LeO.bind ?_ (fun _ => ?_)
  ·intro y0 y1 y2 y3 y4 y5 y6
   unfold depend_Check.l2
   repeat' first
   | (with_reducible exact ih0 _ _ _ _)
   | (with_reducible exact ih1 _ _ _ _ _)
   | (with_reducible exact ih2 _ _ _ _ _ _ _)
   | (with_reducible exact ih3 _ _ _ _ _ _ _)
   | (with_reducible exact ih4 _ _ _ _ _ _ _ _)
   | (with_reducible exact ih5 _ _ _ _ _ _ _ _)
   | (with_reducible exact ih6 _ _ _ _ _ _ _)
   | (with_reducible exact LeO.refl _)
   | (with_reducible exact LeO.none _)
   | (with_reducible refine LeO.ite ?_ ?_)
   | (with_reducible refine LeO.bind ?_ (fun _ => ?_))
   | exact ih0 _ _ _ _
   | exact ih1 _ _ _ _ _
   | exact ih2 _ _ _ _ _ _ _
   | exact ih3 _ _ _ _ _ _ _
   | exact ih4 _ _ _ _ _ _ _ _
   | exact ih5 _ _ _ _ _ _ _ _
   | exact ih6 _ _ _ _ _ _ _
   | exact LeO.none _
   | refine LeO.ite ?_ ?_
   | refine LeO.bind ?_ (fun _ => ?_)
theorem depend_Check.mono : ∀ a0 k, LeO (depend_Check.f k a0) (depend_Check.f (k + 1) a0) := by
 intro a0 k
 obtain ⟨ih0, ih1, ih2, ih3, ih4, ih5, ih6⟩ := depend_Check.mono_l k
 unfold depend_Check.f
 repeat' first
   | (with_reducible exact ih0 _ _ _ _)
   | (with_reducible exact ih1 _ _ _ _ _)
   | (with_reducible exact ih2 _ _ _ _ _ _ _)
   | (with_reducible exact ih3 _ _ _ _ _ _ _)
   | (with_reducible exact ih4 _ _ _ _ _ _ _ _)
   | (with_reducible exact ih5 _ _ _ _ _ _ _ _)
   | (with_reducible exact ih6 _ _ _ _ _ _ _)
   | (with_reducible exact LeO.refl _)
   | (with_reducible exact LeO.none _)
   | (with_reducible refine LeO.ite ?_ ?_)
   | (with_reducible refine LeO.bind ?_ (fun _ => ?_))
   | exact ih0 _ _ _ _
   | exact ih1 _ _ _ _ _
   | exact ih2 _ _ _ _ _ _ _
   | exact ih3 _ _ _ _ _ _ _
   | exact ih4 _ _ _ _ _ _ _ _
   | exact ih5 _ _ _ _ _ _ _ _
   | exact ih6 _ _ _ _ _ _ _
   | exact LeO.none _
   | refine LeO.ite ?_ ?_
   | refine LeO.bind ?_ (fun _ => ?_)
set_option maxHeartbeats 8000000 in
set_option maxRecDepth 100000 in
theorem depend_Check.calls (k : Nat) (A0 : Option Addr) (c0 : Nat) (l0 : List Int) (r1 : Int) (r2 : Int) (w : World) (hr0 : Kd.C (Kd.int .i64) w A0 l0.length l0) (hc0 : l0.length ≤ c0) (h : depend_Check.f k l0 = some (r1, r2)) :
  Calls Try.prog 28 #[.slice A0 l0.length c0] w fun e w' => e = .returned (.tuple #[.int .i64 r1, .int .i64 r2]) ∧ Below w.heap.size w w' := by
 have HR0 := Aside0.mk hr0
 have HC0 := Aside0.mk hc0
 clear hr0 hc0
 have HB := Aside0.mk (Below.refl w.heap.size w)
 have H : (if (l0.length : Int) > 4096 then (some (0, 2)) else (depend_Check.l0 k l0 l0 (l0.length : Int) 0)) = some (r1, r2) := h
 clear h
 by_cases c2 : (l0.length : Int) > 4096
 ·rw [if_pos c2] at H
  have c2b0 : decide (4096 < (l0.length : Int)) = true := decide_eq_true c2
  have c2b1 : decide (4096 < l0.length) = true := decide_eq_true (by omega)
  clear c2
  simp only [Option.some.injEq, Prod.mk.injEq] at H
  obtain ⟨rfl, rfl⟩ := H
  go_enter Try.func28, Try.ntmps28
  go_wp2
  go_ret2
  exact ⟨by first | rfl | (simp [errW_none, errW_some] <;> rfl) | (simp [*, errW_none, errW_some] <;> rfl), by repeat (first | (with_reducible first | exact HB.out | apply below_alloc | apply pw_below_drewN | apply below_drew1) | exact HB.out)⟩
 ·rw [if_neg c2] at H
  have c2b0 : decide (4096 < (l0.length : Int)) = false := decide_eq_false c2
  have c2b1 : decide (4096 < l0.length) = false := decide_eq_false (by omega)
  clear c2
  have H' := Aside0.mk H
  clear H
  go_enter Try.func28, Try.ntmps28
  go_wp2
  go_loopg [17] k (fun kq v17 w' => ∃ (x17_1 : Int), v17 = .int .i64 x17_1 ∧ Aside0 (depend_Check.l0 kq l0 l0 (l0.length : Int) x17_1 = some (r1, r2)) ∧ Aside0 (kq ≤ k) ∧ Aside0 (Below w.heap.size w w'))
  case atStart => exact ⟨(0), (by first | rfl | (simp; done) | (simp [*]; done)), H', ⟨Nat.le_refl _⟩, ⟨by repeat (first | (with_reducible first | exact HB.out | apply below_alloc | apply pw_below_drewN | apply below_drew1) | exact HB.out)⟩⟩
  case round =>
   clear H'
   try clear c2
   try clear c2b0
   try clear c2b1
   try clear p2
   obtain ⟨x17_1, rfl, HA, HK1, HB⟩ := hrel
   cases gk with
   | zero => exact absurd HA.out (by simp [depend_Check.l0])
   | succ k1 =>
    have H := HA.out
    clear HA
    simp only [depend_Check.l0] at H
    by_cases c3 : x17_1 < (l0.length : Int)
    ·rw [if_pos c3] at H
     have c3b0 : decide (x17_1 < (l0.length : Int)) = true := decide_eq_true c3
     clear c3
     by_cases c4 : 0 ≤ x17_1
     ·rw [if_pos c4] at H
      have c4b0 : decide (0 ≤ x17_1) = true := decide_eq_true c4
      clear c4
      by_cases c5 : x17_1 < (l0.length : Int)
      ·rw [if_pos c5] at H
       have c5b0 : decide (x17_1 < (l0.length : Int)) = true := decide_eq_true c5
       clear c5
       by_cases c6 : (rd l0 x17_1) < (-1)
       ·rw [if_pos c6] at H
        have c6b0 : decide ((rd l0 x17_1) < (-1)) = true := decide_eq_true c6
        clear c6
        simp only [Option.some.injEq, Prod.mk.injEq] at H
        obtain ⟨rfl, rfl⟩ := H
        have p342 : 0 ≤ (x17_1 : Int) := of_decide_eq_true (by first | (with_reducible assumption) | assumption)
        have q342 : x17_1 < (l0.length : Int) := of_decide_eq_true (by first | (with_reducible assumption) | assumption)
        obtain ⟨ad342, e342, hx342_0⟩ := Kd.at_int HR0.out x17_1 p342 q342
        cases e342
        replace hx342_0 := (HB.out.cell (World.block_lt_of_cell? w _ hx342_0)).trans hx342_0
        replace p342 := eq_true p342
        replace q342 := eq_true q342
        go_wp2
        go_ret2
        exact ⟨by first | rfl | (simp [errW_none, errW_some] <;> rfl) | (simp [*, errW_none, errW_some] <;> rfl), by repeat (first | (with_reducible first | exact HB.out | apply below_alloc | apply pw_below_drewN | apply below_drew1) | exact HB.out)⟩
       ·rw [if_neg c6] at H
        have c6b0 : decide ((rd l0 x17_1) < (-1)) = false := decide_eq_false c6
        clear c6
        by_cases c7 : (rd l0 x17_1) ≥ (l0.length : Int)
        ·rw [if_pos c7] at H
         have c7b0 : decide ((l0.length : Int) ≤ (rd l0 x17_1)) = true := decide_eq_true c7
         clear c7
         simp only [Option.some.injEq, Prod.mk.injEq] at H
         obtain ⟨rfl, rfl⟩ := H
         have p342 : 0 ≤ (x17_1 : Int) := of_decide_eq_true (by first | (with_reducible assumption) | assumption)
         have q342 : x17_1 < (l0.length : Int) := of_decide_eq_true (by first | (with_reducible assumption) | assumption)
         obtain ⟨ad342, e342, hx342_0⟩ := Kd.at_int HR0.out x17_1 p342 q342
         cases e342
         replace hx342_0 := (HB.out.cell (World.block_lt_of_cell? w _ hx342_0)).trans hx342_0
         replace p342 := eq_true p342
         replace q342 := eq_true q342
         go_wp2
         go_ret2
         exact ⟨by first | rfl | (simp [errW_none, errW_some] <;> rfl) | (simp [*, errW_none, errW_some] <;> rfl), by repeat (first | (with_reducible first | exact HB.out | apply below_alloc | apply pw_below_drewN | apply below_drew1) | exact HB.out)⟩
        ·rw [if_neg c7] at H
         have c7b0 : decide ((l0.length : Int) ≤ (rd l0 x17_1)) = false := decide_eq_false c7
         clear c7
         have H' := Aside0.mk H
         clear H
         have p342 : 0 ≤ (x17_1 : Int) := of_decide_eq_true (by first | (with_reducible assumption) | assumption)
         have q342 : x17_1 < (l0.length : Int) := of_decide_eq_true (by first | (with_reducible assumption) | assumption)
         obtain ⟨ad342, e342, hx342_0⟩ := Kd.at_int HR0.out x17_1 p342 q342
         cases e342
         replace hx342_0 := (HB.out.cell (World.block_lt_of_cell? w _ hx342_0)).trans hx342_0
         replace p342 := eq_true p342
         replace q342 := eq_true q342
         go_wp2
         go_roundg k1
         case measure => have := HK1.out; omega
         case rel => exact ⟨(wrap64 (x17_1 + 1)), (by first | rfl | (simp; done) | (simp [*]; done)), H', ⟨by have := HK1.out; omega⟩, ⟨by repeat (first | (with_reducible first | exact HB.out | apply below_alloc | apply pw_below_drewN | apply below_drew1) | exact HB.out)⟩⟩
      ·rw [if_neg c5] at H
       exact absurd H (by simp)
     ·rw [if_neg c4] at H
      exact absurd H (by simp)
    ·rw [if_neg c3] at H
     have c3b0 : decide (x17_1 < (l0.length : Int)) = false := decide_eq_false c3
     clear c3
     by_cases c8 : 0 ≤ (l0.length : Int)
     ·rw [if_pos c8] at H
      have c8b0 := eq_true c8
      have c8b1 : decide (0 ≤ (l0.length : Int)) = true := decide_eq_true c8
      clear c8
      by_cases c9 : ((l0.length : Int) : Int).toNat ≤ 35184372088832
      ·rw [if_pos c9] at H
       have c9b0 := eq_true c9
       have c9b1 : decide (((l0.length : Int) : Int).toNat ≤ 35184372088832) = true := decide_eq_true c9
       clear c9
       obtain ⟨y343, hy343⟩ : ∃ y_ : List Int, y_ = (List.replicate ((l0.length : Int) : Int).toNat 0) := ⟨_, rfl⟩
       replace H : (depend_Check.l1 k1 l0 y343 (-1) (l0.length : Int) 0) = some (r1, r2) := by first | (rw [hy343]; with_reducible exact H) | (have H2_ := (Option.bind_some _ _).symm.trans H; rw [hy343]; with_reducible exact H2_) | (have H2_ := (Option.bind_some _ _).symm.trans H; with_reducible exact H2_) | with_reducible exact H | (rw [hy343]; exact H) | exact H
       have Ny343 := Aside0.mk hy343
       clear hy343
       have H' := Aside0.mk H
       clear H
       go_wp2_with (first | ((with_reducible refine gate_dst (N := 34) rfl ?_); (try (refine gate_guard (by rfl) ?_; dsimp only)); refine Kd.R_make (Kd.int .i64) _ 3 rfl (N := 34) rfl 22 _ _ rfl (l0.length : Int) rfl rfl Try.underlying22 (.int .i64 0) 8 info3 rfl (by decide) (by omega) 0 (ok := fun _ => True) (okp := fun _ => True) rfl (fun _ hk => hk) trivial (of_decide_eq_true (by first | (with_reducible assumption) | assumption)) (Nat.le_trans (Nat.mul_le_mul_right _ (of_decide_eq_true (by first | (with_reducible assumption) | assumption) : (l0.length : Int).toNat ≤ 35184372088832)) (by omega)) (Below.refl _ _) (Nat.le_refl _) ?_; intro v344 w10 ho11 hb hg_ hnew_; clear hg_ hnew_; (first | rw [← Ny343.out] at ho11 | (simp only [Int.reduceToNat] at ho11; rw [← Ny343.out] at ho11)); have n0_ := Aside0.mk (Kd.R_lower ho11 (below_size (by repeat (first | (with_reducible first | exact HB.out | apply below_alloc | apply pw_below_drewN | apply below_drew1) | exact HB.out)))); have n1_ := Aside0.mk (below_step (by repeat (first | (with_reducible first | exact HB.out | apply below_alloc | apply pw_below_drewN | apply below_drew1) | exact HB.out)) hb); clear HB; have HO345 := n0_; have HB := n1_; clear n0_ n1_; clear hb ho11))
       go_loopg [7, 37] k1 (fun kq v7 v37 w' => ∃ (x6_2 : List Int) (x7_2 : Int) (x37_2 : Int), v7 = .int .i64 x7_2 ∧ v37 = .int .i64 x37_2 ∧ Aside0 (depend_Check.l1 kq l0 x6_2 x7_2 (l0.length : Int) x37_2 = some (r1, r2)) ∧ Aside0 (kq ≤ k1) ∧ Aside0 (Kd.R (Kd.int .i64) 3 w' w.heap.size (fun _ => True) v344 x6_2) ∧ Aside0 (Below w.heap.size w w'))
       case atStart => exact ⟨(y343), ((-1)), (0), (by first | rfl | (simp; done) | (simp [*]; done)), (by first | rfl | (simp; done) | (simp [*]; done)), H', ⟨Nat.le_refl _⟩, ⟨by (with_reducible repeat (first | apply Kd.R_alloc | apply Kd.R_drewN | apply Kd.R_drew)); exact HO345.out⟩, ⟨by repeat (first | (with_reducible first | exact HB.out | apply below_alloc | apply pw_below_drewN | apply below_drew1) | exact HB.out)⟩⟩
       case round =>
        clear H'
        try clear c2
        try clear c2b0
        try clear c2b1
        try clear p2
        try clear c3
        try clear c3b0
        try clear p3
        try clear q3
        try clear hx3
        try clear c4
        try clear c4b0
        try clear c5
        try clear c5b0
        try clear c6
        try clear c6b0
        try clear p6
        try clear c7
        try clear c7b0
        try clear c8
        try clear c8b0
        try clear c8b1
        try clear c9
        try clear c9b0
        try clear c9b1
        try clear hx342_0
        try clear p2
        try clear p342
        try clear q342
        obtain ⟨x6_2, x7_2, x37_2, rfl, rfl, HA, HK2, HO_6, HB⟩ := hrel
        cases gk with
        | zero => exact absurd HA.out (by simp [depend_Check.l1])
        | succ k2 =>
         have H := HA.out
         clear HA
         simp only [depend_Check.l1] at H
         by_cases c12 : x37_2 < (l0.length : Int)
         ·rw [if_pos c12] at H
          have c12b0 : decide (x37_2 < (l0.length : Int)) = true := decide_eq_true c12
          clear c12
          have HC13 := Aside0.mk H
          clear H
          go_upto_block 4 with (fail)
          go_cut [9] (fun v9 wc => ∃ (kq : Nat) (x6_12 : List Int) (x9_12 : Int), v9 = .int .i64 x9_12 ∧ Aside0 (depend_Check.j3 kq l0 x6_12 x7_2 x37_2 x9_12 (l0.length : Int) x37_2 = some (r1, r2)) ∧ Aside0 (kq ≤ k2) ∧ Aside0 (Kd.R (Kd.int .i64) 3 wc w.heap.size (fun _ => True) v344 x6_12) ∧ Aside0 (Below w.heap.size w wc))
          case first =>
           have H := HC13.out
           clear HC13
           have H' := Aside0.mk H
           clear H
           go_wp2
           go_loopg [9] k2 (fun kq v9 w' => ∃ (x6_3 : List Int) (x9_3 : Int), v9 = .int .i64 x9_3 ∧ Aside0 (depend_Check.l2 kq l0 x6_3 x7_2 x37_2 x9_3 (l0.length : Int) x37_2 = some (r1, r2)) ∧ Aside0 (kq ≤ k2) ∧ Aside0 (Kd.R (Kd.int .i64) 3 w' w.heap.size (fun _ => True) v344 x6_3) ∧ Aside0 (Below w.heap.size w w'))
           case atStart => exact ⟨(x6_2), (x37_2), (by first | rfl | (simp; done) | (simp [*]; done)), H', ⟨Nat.le_refl _⟩, ⟨by (with_reducible repeat (first | apply Kd.R_alloc | apply Kd.R_drewN | apply Kd.R_drew)); exact HO_6.out⟩, ⟨by repeat (first | (with_reducible first | exact HB.out | apply below_alloc | apply pw_below_drewN | apply below_drew1) | exact HB.out)⟩⟩
           case round =>
            clear H'
            try clear c1
            try clear c2
            try clear c2b0
            try clear c2b1
            try clear p2
            try clear c3
            try clear c3b0
            try clear p3
            try clear q3
            try clear hx3
            try clear c4
            try clear c4b0
            try clear c5
            try clear c5b0
            try clear c6
            try clear c6b0
            try clear p6
            try clear c7
            try clear c7b0
            try clear c8
            try clear c8b0
            try clear c8b1
            try clear c9
            try clear c9b0
            try clear c9b1
            try clear c12
            try clear c12b0
            try clear hx342_0
            try clear p2
            try clear p3
            try clear p342
            try clear p6
            try clear q3
            try clear q342
            obtain ⟨x6_3, x9_3, rfl, HA, HK3, HO_6, HB⟩ := hrel
            cases gk with
            | zero => exact absurd HA.out (by simp [depend_Check.l2])
            | succ k3 =>
             have H := HA.out
             clear HA
             simp only [depend_Check.l2] at H
             by_cases c14 : x9_3 ≥ 0
             ·rw [if_pos c14] at H
              have c14b0 : decide (0 ≤ x9_3) = true := decide_eq_true c14
              clear c14
              (first | rw [c14b0] | (simp only [i64_w, i32_w]; rw [c14b0]) | skip)
              by_cases c15 : 0 ≤ x9_3
              ·rw [if_pos c15] at H
               have c15b0 : decide (0 ≤ x9_3) = true := decide_eq_true c15
               clear c15
               by_cases c16 : x9_3 < (x6_3.length : Int)
               ·rw [if_pos c16] at H
                have c16b0 : decide (x9_3 < (x6_3.length : Int)) = true := decide_eq_true c16
                clear c16
                by_cases c17 : (rd x6_3 x9_3) = 0
                ·rw [if_pos c17] at H
                 have c17b0 : ((rd x6_3 x9_3) == 0) = true := beq_iff_eq.mpr c17
                 have c17b1 : ((rd x6_3 x9_3) != 0) = false := bne_eq_false_iff_eq.mpr c17
                 clear c17
                 obtain ⟨y347, hy347⟩ : ∃ y_ : List Int, y_ = (x6_3.set (x9_3 : Int).toNat (wrap64 (x37_2 + 1))) := ⟨_, rfl⟩
                 replace H : (if x9_3 < (l0.length : Int) then (depend_Check.l2 k3 l0 y347 x7_2 x37_2 (rd l0 x9_3) (l0.length : Int) x37_2) else (none)) = some (r1, r2) := by first | (rw [hy347]; with_reducible exact H) | (have H2_ := (Option.bind_some _ _).symm.trans H; rw [hy347]; with_reducible exact H2_) | (have H2_ := (Option.bind_some _ _).symm.trans H; with_reducible exact H2_) | with_reducible exact H | (rw [hy347]; exact H) | exact H
                 have Ny347 := Aside0.mk hy347
                 clear hy347
                 by_cases c19 : x9_3 < (l0.length : Int)
                 ·rw [if_pos c19] at H
                  have c19b0 : decide (x9_3 < (l0.length : Int)) = true := decide_eq_true c19
                  clear c19
                  have H' := Aside0.mk H
                  clear H
                  obtain ⟨Ao20, co20, eo20⟩ := Kd.R_slice HO_6.out
                  subst eo20
                  have p346 : 0 ≤ (x9_3 : Int) := of_decide_eq_true (by first | (with_reducible assumption) | assumption)
                  have q346 : x9_3 < (x6_3.length : Int) := of_decide_eq_true (by first | (with_reducible assumption) | assumption)
                  obtain ⟨ad346, e346, hx346_0⟩ := Kd.at_int (Kd.R_reads' HO_6.out).2.2 x9_3 p346 q346
                  cases e346
                  replace p346 := eq_true p346
                  replace q346 := eq_true q346
                  have p18 : 0 ≤ (x9_3 : Int) := of_decide_eq_true (by first | (with_reducible assumption) | assumption)
                  have q18 : (x9_3 : Int) < ((x6_3.length : Int) : Int) := of_decide_eq_true (by first | (with_reducible assumption) | assumption)
                  obtain ⟨go18, co18, eo18, gb18, gl18, cl18, HG18⟩ := Kd.R_form HO_6.out (by omega)
                  (first | cases eo18 | (injection eo18 with ea_ en_ ec_; (first | subst ea_ | (injection ea_ with ea_; subst ea_)); subst ec_; clear en_))
                  have GB18 := Aside0.mk gb18
                  have GG18 := Aside0.mk HG18
                  clear gb18 gl18 HG18
                  (first | simp only [add_plain] at hx346_0 | skip)
                  obtain ⟨hx18_0, hf18_0⟩ := Kd.R_celln 0 HO_6.out (x9_3 : Int) p18 q18
                  replace p18 := eq_true p18
                  replace q18 := eq_true q18
                  have HP21 := Kd.R_putg HO_6.out (x9_3 : Int) (wrap64 (x37_2 + 1))
                  go_wp2_with (first | ((with_reducible refine gate_store (t := 3) (p := 54) rfl ?_); refine store_event (t := 3) (p := 54) (v := ?vo_w22) (w1 := (wr.setCell ⟨go18, (x9_3 : Int).toNat, none⟩ (.int .i64 (wrap64 (x37_2 + 1))))) ?hg ?ho ?hn ?hr ?_; (case ho => rfl); (case hg => rfl); (case hn => rfl); (case hr => first | (go_simp; done) | (go_simp; rfl)); intro w22 hw; have hg : wr.grownBy w22 (some go18) := (by rw [hw]; exact HP21.2); have hp_ : Kd.R (Kd.int .i64) 3 w22 w.heap.size (fun _ => True) (.slice (some ⟨go18, 0, none⟩) x6_3.length co20) y347 := (by rw [hw, Ny347.out]; exact HP21.1); clear HP21; have n0_ := Aside0.mk (hp_); have n1_ := Aside0.mk ((by rw [hw]; exact below_set (HB.out) GB18.out : Below w.heap.size w w22)); clear HO_6; clear HB; have HO_6 := n0_; have HB := n1_; clear n0_ n1_; clear hg hw hp_; have p348 : 0 ≤ (x9_3 : Int) := of_decide_eq_true (by first | (with_reducible assumption) | assumption); have q348 : x9_3 < (l0.length : Int) := of_decide_eq_true (by first | (with_reducible assumption) | assumption); obtain ⟨ad348, e348, hx348_0⟩ := Kd.at_int HR0.out x9_3 p348 q348; cases e348; replace hx348_0 := (HB.out.cell (World.block_lt_of_cell? w _ hx348_0)).trans hx348_0; replace p348 := eq_true p348; replace q348 := eq_true q348))
                  go_roundg k3
                  case measure => have := HK1.out; have := HK2.out; have := HK3.out; omega
                  case rel => exact ⟨(y347), (rd l0 x9_3), (by first | rfl | (simp; done) | (simp [*]; done)), H', ⟨by have := HK1.out; have := HK2.out; have := HK3.out; omega⟩, ⟨by (with_reducible repeat (first | apply Kd.R_alloc | apply Kd.R_drewN | apply Kd.R_drew)); exact HO_6.out⟩, ⟨by repeat (first | (with_reducible first | exact HB.out | apply below_alloc | apply pw_below_drewN | apply below_drew1) | exact HB.out)⟩⟩
                 ·rw [if_neg c19] at H
                  exact absurd H (by simp)
                ·rw [if_neg c17] at H
                 have c17b0 : ((rd x6_3 x9_3) == 0) = false := beq_eq_false_iff_ne.mpr c17
                 have c17b1 : ((rd x6_3 x9_3) != 0) = true := bne_iff_ne.mpr c17
                 have H' := Aside0.mk H
                 clear H
                 obtain ⟨Ao23, co23, eo23⟩ := Kd.R_slice HO_6.out
                 subst eo23
                 have p346 : 0 ≤ (x9_3 : Int) := of_decide_eq_true (by first | (with_reducible assumption) | assumption)
                 have q346 : x9_3 < (x6_3.length : Int) := of_decide_eq_true (by first | (with_reducible assumption) | assumption)
                 obtain ⟨ad346, e346, hx346_0⟩ := Kd.at_int (Kd.R_reads' HO_6.out).2.2 x9_3 p346 q346
                 cases e346
                 replace p346 := eq_true p346
                 replace q346 := eq_true q346
                 go_wp2
                 go_meet
                 case rel => exact ⟨_, (x6_3), (x9_3), (by first | rfl | (simp; done) | (simp [*]; done)), H', ⟨by have := HK1.out; have := HK2.out; have := HK3.out; first | omega | exact Nat.le_refl _⟩, ⟨by (with_reducible repeat (first | apply Kd.R_alloc | apply Kd.R_drewN | apply Kd.R_drew)); exact HO_6.out⟩, ⟨by repeat (first | (with_reducible first | exact HB.out | apply below_alloc | apply pw_below_drewN | apply below_drew1) | exact HB.out)⟩⟩
               ·rw [if_neg c16] at H
                exact absurd H (by simp)
              ·rw [if_neg c15] at H
               exact absurd H (by simp)
             ·rw [if_neg c14] at H
              have c14b0 : decide (0 ≤ x9_3) = false := decide_eq_false c14
              clear c14
              (first | rw [c14b0] | (simp only [i64_w, i32_w]; rw [c14b0]) | skip)
              have H' := Aside0.mk H
              clear H
              go_wp2
              go_meet
              case rel => exact ⟨_, (x6_3), (x9_3), (by first | rfl | (simp; done) | (simp [*]; done)), H', ⟨by have := HK1.out; have := HK2.out; have := HK3.out; first | omega | exact Nat.le_refl _⟩, ⟨by (with_reducible repeat (first | apply Kd.R_alloc | apply Kd.R_drewN | apply Kd.R_drew)); exact HO_6.out⟩, ⟨by repeat (first | (with_reducible first | exact HB.out | apply below_alloc | apply pw_below_drewN | apply below_drew1) | exact HB.out)⟩⟩
          case rest =>
           clear HC13
           try clear c1
           try clear p1
           try clear q1
           try clear hx1
           try clear hf1
           try clear c2
           try clear c2b0
           try clear c2b1
           try clear p2
           try clear c3
           try clear c3b0
           try clear p3
           try clear q3
           try clear hx3
           try clear c4
           try clear c4b0
           try clear c5
           try clear c5b0
           try clear c6
           try clear c6b0
           try clear p6
           try clear c7
           try clear c7b0
           try clear c8
           try clear c8b0
           try clear c8b1
           try clear c9
           try clear c9b0
           try clear c9b1
           try clear c12
           try clear c12b0
           try clear c14
           try clear c14b0
           try clear c15
           try clear c15b0
           try clear c16
           try clear c16b0
           try clear c17
           try clear c17b0
           try clear c17b1
           try clear p18
           try clear q18
           try clear hx18
           try clear hf18
           try clear c19
           try clear c19b0
           try clear hx18_0
           try clear hx342_0
           try clear hx346_0
           try clear hx348_0
           try clear p18
           try clear p2
           try clear p3
           try clear p342
           try clear p346
           try clear p348
           try clear p6
           try clear q18
           try clear q3
           try clear q342
           try clear q346
           try clear q348
           obtain ⟨kq, x6_12, x9_12, rfl, HA, HJ12, HO_6, HB⟩ := hcut
           cases kq with
           | zero => exact absurd HA.out (by simp [depend_Check.j3])
           | succ kj12 =>
            have H := HA.out
            clear HA
            simp only [depend_Check.j3] at H
            have HC24 := Aside0.mk H
            clear H
            go_upto_region 18 with (fail)
            go_cut [69] (fun v69 wc => ∃ (kq : Nat) (x69_23 : Bool), v69 = .bool x69_23 ∧ Aside0 (depend_Check.j4 kq l0 x6_12 x7_2 x9_12 (l0.length : Int) x37_2 x69_23 = some (r1, r2)) ∧ Aside0 (kq ≤ kj12) ∧ Aside0 (Kd.R (Kd.int .i64) 3 wc w.heap.size (fun _ => True) v344 x6_12) ∧ Aside0 (Below w.heap.size w wc))
            case first =>
             have H := HC24.out
             clear HC24
             by_cases c25 : x9_12 < 0
             ·rw [if_pos c25] at H
              have c25b0 : decide (x9_12 < 0) = true := decide_eq_true c25
              clear c25
              (first | rw [c25b0] | (simp only [i64_w, i32_w]; rw [c25b0]) | skip)
              have H' := Aside0.mk H
              clear H
              go_wp2
              go_meet
              case rel => exact ⟨_, (true), (by first | rfl | (simp; done) | (simp [*]; done)), H', ⟨by have := HK1.out; have := HK2.out; have := HJ12.out; first | omega | exact Nat.le_refl _⟩, ⟨by (with_reducible repeat (first | apply Kd.R_alloc | apply Kd.R_drewN | apply Kd.R_drew)); exact HO_6.out⟩, ⟨by repeat (first | (with_reducible first | exact HB.out | apply below_alloc | apply pw_below_drewN | apply below_drew1) | exact HB.out)⟩⟩
             ·rw [if_neg c25] at H
              have c25b0 : decide (x9_12 < 0) = false := decide_eq_false c25
              clear c25
              (first | rw [c25b0] | (simp only [i64_w, i32_w]; rw [c25b0]) | skip)
              by_cases c26 : 0 ≤ x9_12
              ·rw [if_pos c26] at H
               have c26b0 : decide (0 ≤ x9_12) = true := decide_eq_true c26
               clear c26
               by_cases c27 : x9_12 < (x6_12.length : Int)
               ·rw [if_pos c27] at H
                have c27b0 : decide (x9_12 < (x6_12.length : Int)) = true := decide_eq_true c27
                clear c27
                have H' := Aside0.mk H
                clear H
                obtain ⟨Ao28, co28, eo28⟩ := Kd.R_slice HO_6.out
                subst eo28
                have p349 : 0 ≤ (x9_12 : Int) := of_decide_eq_true (by first | (with_reducible assumption) | assumption)
                have q349 : x9_12 < (x6_12.length : Int) := of_decide_eq_true (by first | (with_reducible assumption) | assumption)
                obtain ⟨ad349, e349, hx349_0⟩ := Kd.at_int (Kd.R_reads' HO_6.out).2.2 x9_12 p349 q349
                cases e349
                replace p349 := eq_true p349
                replace q349 := eq_true q349
                go_wp2
                go_meet
                case rel => exact ⟨_, (((rd x6_12 x9_12) != (wrap64 (x37_2 + 1)))), (by first | rfl | (simp; done) | (simp [*]; done)), H', ⟨by have := HK1.out; have := HK2.out; have := HJ12.out; first | omega | exact Nat.le_refl _⟩, ⟨by (with_reducible repeat (first | apply Kd.R_alloc | apply Kd.R_drewN | apply Kd.R_drew)); exact HO_6.out⟩, ⟨by repeat (first | (with_reducible first | exact HB.out | apply below_alloc | apply pw_below_drewN | apply below_drew1) | exact HB.out)⟩⟩
               ·rw [if_neg c27] at H
                exact absurd H (by simp)
              ·rw [if_neg c26] at H
               exact absurd H (by simp)
            case rest =>
             clear HC24
             try clear c1
             try clear p1
             try clear q1
             try clear hx1
             try clear hf1
             try clear c2
             try clear c2b0
             try clear c2b1
             try clear p2
             try clear c3
             try clear c3b0
             try clear p3
             try clear q3
             try clear hx3
             try clear c4
             try clear c4b0
             try clear c5
             try clear c5b0
             try clear c6
             try clear c6b0
             try clear p6
             try clear c7
             try clear c7b0
             try clear c8
             try clear c8b0
             try clear c8b1
             try clear c9
             try clear c9b0
             try clear c9b1
             try clear c12
             try clear c12b0
             try clear c14
             try clear c14b0
             try clear c15
             try clear c15b0
             try clear c16
             try clear c16b0
             try clear c17
             try clear c17b0
             try clear c17b1
             try clear p18
             try clear q18
             try clear hx18
             try clear hf18
             try clear c19
             try clear c19b0
             try clear c25
             try clear c25b0
             try clear c26
             try clear c26b0
             try clear c27
             try clear c27b0
             try clear c28
             try clear hx18_0
             try clear hx342_0
             try clear hx346_0
             try clear hx348_0
             try clear hx349_0
             try clear p1
             try clear p18
             try clear p2
             try clear p3
             try clear p342
             try clear p346
             try clear p348
             try clear p349
             try clear p6
             try clear q1
             try clear q18
             try clear q3
             try clear q342
             try clear q346
             try clear q348
             try clear q349
             obtain ⟨kq, x69_23, rfl, HA, HJ23, HO_6, HB⟩ := hcut
             cases kq with
             | zero => exact absurd HA.out (by simp [depend_Check.j4])
             | succ kj23 =>
              have H := HA.out
              clear HA
              simp only [depend_Check.j4] at H
              by_cases c29 : x69_23 = true
              ·subst c29
               have H1 : (depend_Check.l1 kj23 l0 x6_12 x7_2 (l0.length : Int) (wrap64 (x37_2 + 1))) = some (r1, r2) := by rw [if_pos rfl] at H; exact H
               clear H
               have H := H1
               clear H1
               have H' := Aside0.mk H
               clear H
               go_wp2
               go_roundg kj23
               case measure => have := HK1.out; have := HK2.out; have := HJ12.out; have := HJ23.out; omega
               case rel => exact ⟨(x6_12), (x7_2), (wrap64 (x37_2 + 1)), (by first | rfl | (simp; done) | (simp [*]; done)), (by first | rfl | (simp; done) | (simp [*]; done)), H', ⟨by have := HK1.out; have := HK2.out; have := HJ12.out; have := HJ23.out; omega⟩, ⟨by (with_reducible repeat (first | apply Kd.R_alloc | apply Kd.R_drewN | apply Kd.R_drew)); exact HO_6.out⟩, ⟨by repeat (first | (with_reducible first | exact HB.out | apply below_alloc | apply pw_below_drewN | apply below_drew1) | exact HB.out)⟩⟩
              ·replace c29 := Bool.eq_false_iff.mpr c29
               subst c29
               have H1 : (depend_Check.l3 kj23 l0 x6_12 x7_2 x9_12 x9_12 true (l0.length : Int) x37_2) = some (r1, r2) := by rw [if_neg (show ¬ (false = true) by decide)] at H; exact H
               clear H
               have H := H1
               clear H1
               have H' := Aside0.mk H
               clear H
               go_wp2
               go_loopg [7, 10, 11] kj23 (fun kq v7 v10 v11 w' => ∃ (x7_5 : Int) (x10_5 : Int) (x11_5 : Bool), v7 = .int .i64 x7_5 ∧ v10 = .int .i64 x10_5 ∧ v11 = .bool x11_5 ∧ Aside0 (depend_Check.l3 kq l0 x6_12 x7_5 x9_12 x10_5 x11_5 (l0.length : Int) x37_2 = some (r1, r2)) ∧ Aside0 (kq ≤ kj23) ∧ Aside0 (Kd.R (Kd.int .i64) 3 w' w.heap.size (fun _ => True) v344 x6_12) ∧ Aside0 (Below w.heap.size w w'))
               case atStart => exact ⟨(x7_2), (x9_12), (true), (by first | rfl | (simp; done) | (simp [*]; done)), (by first | rfl | (simp; done) | (simp [*]; done)), (by first | rfl | (simp; done) | (simp [*]; done)), H', ⟨Nat.le_refl _⟩, ⟨by (with_reducible repeat (first | apply Kd.R_alloc | apply Kd.R_drewN | apply Kd.R_drew)); exact HO_6.out⟩, ⟨by repeat (first | (with_reducible first | exact HB.out | apply below_alloc | apply pw_below_drewN | apply below_drew1) | exact HB.out)⟩⟩
               case round =>
                clear H'
                try clear c1
                try clear p1
                try clear q1
                try clear hx1
                try clear hf1
                try clear c2
                try clear c2b0
                try clear c2b1
                try clear p2
                try clear c3
                try clear c3b0
                try clear p3
                try clear q3
                try clear hx3
                try clear c4
                try clear c4b0
                try clear c5
                try clear c5b0
                try clear c6
                try clear c6b0
                try clear p6
                try clear c7
                try clear c7b0
                try clear c8
                try clear c8b0
                try clear c8b1
                try clear c9
                try clear c9b0
                try clear c9b1
                try clear c12
                try clear c12b0
                try clear c14
                try clear c14b0
                try clear c15
                try clear c15b0
                try clear c16
                try clear c16b0
                try clear c17
                try clear c17b0
                try clear c17b1
                try clear p18
                try clear q18
                try clear hx18
                try clear hf18
                try clear c19
                try clear c19b0
                try clear c25
                try clear c25b0
                try clear c26
                try clear c26b0
                try clear c27
                try clear c27b0
                try clear c28
                try clear c29
                try clear hx18_0
                try clear hx342_0
                try clear hx346_0
                try clear hx348_0
                try clear hx349_0
                try clear p1
                try clear p18
                try clear p2
                try clear p3
                try clear p342
                try clear p346
                try clear p348
                try clear p349
                try clear p6
                try clear q1
                try clear q18
                try clear q3
                try clear q342
                try clear q346
                try clear q348
                try clear q349
                obtain ⟨x7_5, x10_5, x11_5, rfl, rfl, rfl, HA, HK5, HO_6, HB⟩ := hrel
                cases gk with
                | zero => exact absurd HA.out (by simp [depend_Check.l3])
                | succ k5 =>
                 have H := HA.out
                 clear HA
                 simp only [depend_Check.l3] at H
                 have HC30 := Aside0.mk H
                 clear H
                 go_upto_region 20 with (fail)
                 go_cut [76] (fun v76 wc => ∃ (kq : Nat) (x76_29 : Bool), v76 = .bool x76_29 ∧ Aside0 (depend_Check.j6 kq l0 x6_12 x7_5 x9_12 x10_5 (l0.length : Int) x37_2 x76_29 = some (r1, r2)) ∧ Aside0 (kq ≤ k5) ∧ Aside0 (Kd.R (Kd.int .i64) 3 wc w.heap.size (fun _ => True) v344 x6_12) ∧ Aside0 (Below w.heap.size w wc))
                 case first =>
                  have H := HC30.out
                  clear HC30
                  by_cases c31 : x11_5 = true
                  ·subst c31
                   have H1 : (depend_Check.j6 k5 l0 x6_12 x7_5 x9_12 x10_5 (l0.length : Int) x37_2 true) = some (r1, r2) := by rw [if_pos rfl] at H; exact H
                   clear H
                   have H := H1
                   clear H1
                   have H' := Aside0.mk H
                   clear H
                   go_wp2
                   go_meet
                   case rel => exact ⟨_, (true), (by first | rfl | (simp; done) | (simp [*]; done)), H', ⟨by have := HK1.out; have := HK2.out; have := HJ12.out; have := HJ23.out; have := HK5.out; first | omega | exact Nat.le_refl _⟩, ⟨by (with_reducible repeat (first | apply Kd.R_alloc | apply Kd.R_drewN | apply Kd.R_drew)); exact HO_6.out⟩, ⟨by repeat (first | (with_reducible first | exact HB.out | apply below_alloc | apply pw_below_drewN | apply below_drew1) | exact HB.out)⟩⟩
                  ·replace c31 := Bool.eq_false_iff.mpr c31
                   subst c31
                   have H1 : (depend_Check.j6 k5 l0 x6_12 x7_5 x9_12 x10_5 (l0.length : Int) x37_2 (x10_5 != x9_12)) = some (r1, r2) := by rw [if_neg (show ¬ (false = true) by decide)] at H; exact H
                   clear H
                   have H := H1
                   clear H1
                   have H' := Aside0.mk H
                   clear H
                   go_wp2
                   go_meet
                   case rel => exact ⟨_, ((x10_5 != x9_12)), (by first | rfl | (simp; done) | (simp [*]; done)), H', ⟨by have := HK1.out; have := HK2.out; have := HJ12.out; have := HJ23.out; have := HK5.out; first | omega | exact Nat.le_refl _⟩, ⟨by (with_reducible repeat (first | apply Kd.R_alloc | apply Kd.R_drewN | apply Kd.R_drew)); exact HO_6.out⟩, ⟨by repeat (first | (with_reducible first | exact HB.out | apply below_alloc | apply pw_below_drewN | apply below_drew1) | exact HB.out)⟩⟩
                 case rest =>
                  clear HC30
                  try clear c1
                  try clear p1
                  try clear q1
                  try clear hx1
                  try clear hf1
                  try clear c2
                  try clear c2b0
                  try clear c2b1
                  try clear p2
                  try clear c3
                  try clear c3b0
                  try clear p3
                  try clear q3
                  try clear hx3
                  try clear c4
                  try clear c4b0
                  try clear c5
                  try clear c5b0
                  try clear c6
                  try clear c6b0
                  try clear p6
                  try clear c7
                  try clear c7b0
                  try clear c8
                  try clear c8b0
                  try clear c8b1
                  try clear c9
                  try clear c9b0
                  try clear c9b1
                  try clear c12
                  try clear c12b0
                  try clear c14
                  try clear c14b0
                  try clear c15
                  try clear c15b0
                  try clear c16
                  try clear c16b0
                  try clear c17
                  try clear c17b0
                  try clear c17b1
                  try clear p18
                  try clear q18
                  try clear hx18
                  try clear hf18
                  try clear c19
                  try clear c19b0
                  try clear c25
                  try clear c25b0
                  try clear c26
                  try clear c26b0
                  try clear c27
                  try clear c27b0
                  try clear c28
                  try clear c29
                  try clear c31
                  try clear hx18_0
                  try clear hx342_0
                  try clear hx346_0
                  try clear hx348_0
                  try clear hx349_0
                  try clear p1
                  try clear p18
                  try clear p2
                  try clear p3
                  try clear p342
                  try clear p346
                  try clear p348
                  try clear p349
                  try clear p6
                  try clear q1
                  try clear q18
                  try clear q3
                  try clear q342
                  try clear q346
                  try clear q348
                  try clear q349
                  obtain ⟨kq, x76_29, rfl, HA, HJ29, HO_6, HB⟩ := hcut
                  cases kq with
                  | zero => exact absurd HA.out (by simp [depend_Check.j6])
                  | succ kj29 =>
                   have H := HA.out
                   clear HA
                   simp only [depend_Check.j6] at H
                   by_cases c32 : x76_29 = true
                   ·subst c32
                    have H1 : (if x7_5 < 0 then (if 0 ≤ x10_5 then (if x10_5 < (l0.length : Int) then (depend_Check.l3 kj29 l0 x6_12 x10_5 x9_12 (rd l0 x10_5) false (l0.length : Int) x37_2) else (none)) else (none)) else (if x10_5 < x7_5 then (if 0 ≤ x10_5 then (if x10_5 < (l0.length : Int) then (depend_Check.l3 kj29 l0 x6_12 x10_5 x9_12 (rd l0 x10_5) false (l0.length : Int) x37_2) else (none)) else (none)) else (if 0 ≤ x10_5 then (if x10_5 < (l0.length : Int) then (depend_Check.l3 kj29 l0 x6_12 x7_5 x9_12 (rd l0 x10_5) false (l0.length : Int) x37_2) else (none)) else (none)))) = some (r1, r2) := by rw [if_pos rfl] at H; exact H
                    clear H
                    have H := H1
                    clear H1
                    by_cases c33 : x7_5 < 0
                    ·rw [if_pos c33] at H
                     have c33b0 : decide (x7_5 < 0) = true := decide_eq_true c33
                     clear c33
                     by_cases c34 : 0 ≤ x10_5
                     ·rw [if_pos c34] at H
                      have c34b0 : decide (0 ≤ x10_5) = true := decide_eq_true c34
                      clear c34
                      by_cases c35 : x10_5 < (l0.length : Int)
                      ·rw [if_pos c35] at H
                       have c35b0 : decide (x10_5 < (l0.length : Int)) = true := decide_eq_true c35
                       clear c35
                       have H' := Aside0.mk H
                       clear H
                       have p350 : 0 ≤ (x10_5 : Int) := of_decide_eq_true (by first | (with_reducible assumption) | assumption)
                       have q350 : x10_5 < (l0.length : Int) := of_decide_eq_true (by first | (with_reducible assumption) | assumption)
                       obtain ⟨ad350, e350, hx350_0⟩ := Kd.at_int HR0.out x10_5 p350 q350
                       cases e350
                       replace hx350_0 := (HB.out.cell (World.block_lt_of_cell? w _ hx350_0)).trans hx350_0
                       replace p350 := eq_true p350
                       replace q350 := eq_true q350
                       go_wp2
                       go_roundg kj29
                       case measure => have := HK1.out; have := HK2.out; have := HJ12.out; have := HJ23.out; have := HK5.out; have := HJ29.out; omega
                       case rel => exact ⟨(x10_5), (rd l0 x10_5), (false), (by first | rfl | (simp; done) | (simp [*]; done)), (by first | rfl | (simp; done) | (simp [*]; done)), (by first | rfl | (simp; done) | (simp [*]; done)), H', ⟨by have := HK1.out; have := HK2.out; have := HJ12.out; have := HJ23.out; have := HK5.out; have := HJ29.out; omega⟩, ⟨by (with_reducible repeat (first | apply Kd.R_alloc | apply Kd.R_drewN | apply Kd.R_drew)); exact HO_6.out⟩, ⟨by repeat (first | (with_reducible first | exact HB.out | apply below_alloc | apply pw_below_drewN | apply below_drew1) | exact HB.out)⟩⟩
                      ·rw [if_neg c35] at H
                       exact absurd H (by simp)
                     ·rw [if_neg c34] at H
                      exact absurd H (by simp)
                    ·rw [if_neg c33] at H
                     have c33b0 : decide (x7_5 < 0) = false := decide_eq_false c33
                     clear c33
                     by_cases c36 : x10_5 < x7_5
                     ·rw [if_pos c36] at H
                      have c36b0 : decide (x10_5 < x7_5) = true := decide_eq_true c36
                      clear c36
                      by_cases c37 : 0 ≤ x10_5
                      ·rw [if_pos c37] at H
                       have c37b0 : decide (0 ≤ x10_5) = true := decide_eq_true c37
                       clear c37
                       by_cases c38 : x10_5 < (l0.length : Int)
                       ·rw [if_pos c38] at H
                        have c38b0 : decide (x10_5 < (l0.length : Int)) = true := decide_eq_true c38
                        clear c38
                        have H' := Aside0.mk H
                        clear H
                        have p351 : 0 ≤ (x10_5 : Int) := of_decide_eq_true (by first | (with_reducible assumption) | assumption)
                        have q351 : x10_5 < (l0.length : Int) := of_decide_eq_true (by first | (with_reducible assumption) | assumption)
                        obtain ⟨ad351, e351, hx351_0⟩ := Kd.at_int HR0.out x10_5 p351 q351
                        cases e351
                        replace hx351_0 := (HB.out.cell (World.block_lt_of_cell? w _ hx351_0)).trans hx351_0
                        replace p351 := eq_true p351
                        replace q351 := eq_true q351
                        go_wp2
                        go_roundg kj29
                        case measure => have := HK1.out; have := HK2.out; have := HJ12.out; have := HJ23.out; have := HK5.out; have := HJ29.out; omega
                        case rel => exact ⟨(x10_5), (rd l0 x10_5), (false), (by first | rfl | (simp; done) | (simp [*]; done)), (by first | rfl | (simp; done) | (simp [*]; done)), (by first | rfl | (simp; done) | (simp [*]; done)), H', ⟨by have := HK1.out; have := HK2.out; have := HJ12.out; have := HJ23.out; have := HK5.out; have := HJ29.out; omega⟩, ⟨by (with_reducible repeat (first | apply Kd.R_alloc | apply Kd.R_drewN | apply Kd.R_drew)); exact HO_6.out⟩, ⟨by repeat (first | (with_reducible first | exact HB.out | apply below_alloc | apply pw_below_drewN | apply below_drew1) | exact HB.out)⟩⟩
                       ·rw [if_neg c38] at H
                        exact absurd H (by simp)
                      ·rw [if_neg c37] at H
                       exact absurd H (by simp)
                     ·rw [if_neg c36] at H
                      have c36b0 : decide (x10_5 < x7_5) = false := decide_eq_false c36
                      clear c36
                      by_cases c39 : 0 ≤ x10_5
                      ·rw [if_pos c39] at H
                       have c39b0 : decide (0 ≤ x10_5) = true := decide_eq_true c39
                       clear c39
                       by_cases c40 : x10_5 < (l0.length : Int)
                       ·rw [if_pos c40] at H
                        have c40b0 : decide (x10_5 < (l0.length : Int)) = true := decide_eq_true c40
                        clear c40
                        have H' := Aside0.mk H
                        clear H
                        have p352 : 0 ≤ (x10_5 : Int) := of_decide_eq_true (by first | (with_reducible assumption) | assumption)
                        have q352 : x10_5 < (l0.length : Int) := of_decide_eq_true (by first | (with_reducible assumption) | assumption)
                        obtain ⟨ad352, e352, hx352_0⟩ := Kd.at_int HR0.out x10_5 p352 q352
                        cases e352
                        replace hx352_0 := (HB.out.cell (World.block_lt_of_cell? w _ hx352_0)).trans hx352_0
                        replace p352 := eq_true p352
                        replace q352 := eq_true q352
                        go_wp2
                        go_roundg kj29
                        case measure => have := HK1.out; have := HK2.out; have := HJ12.out; have := HJ23.out; have := HK5.out; have := HJ29.out; omega
                        case rel => exact ⟨(x7_5), (rd l0 x10_5), (false), (by first | rfl | (simp; done) | (simp [*]; done)), (by first | rfl | (simp; done) | (simp [*]; done)), (by first | rfl | (simp; done) | (simp [*]; done)), H', ⟨by have := HK1.out; have := HK2.out; have := HJ12.out; have := HJ23.out; have := HK5.out; have := HJ29.out; omega⟩, ⟨by (with_reducible repeat (first | apply Kd.R_alloc | apply Kd.R_drewN | apply Kd.R_drew)); exact HO_6.out⟩, ⟨by repeat (first | (with_reducible first | exact HB.out | apply below_alloc | apply pw_below_drewN | apply below_drew1) | exact HB.out)⟩⟩
                       ·rw [if_neg c40] at H
                        exact absurd H (by simp)
                      ·rw [if_neg c39] at H
                       exact absurd H (by simp)
                   ·replace c32 := Bool.eq_false_iff.mpr c32
                    subst c32
                    have H1 : (depend_Check.l1 kj29 l0 x6_12 x7_5 (l0.length : Int) (wrap64 (x37_2 + 1))) = some (r1, r2) := by rw [if_neg (show ¬ (false = true) by decide)] at H; exact H
                    clear H
                    have H := H1
                    clear H1
                    have H' := Aside0.mk H
                    clear H
                    go_wp2
                    go_roundg kj29
                    case measure => have := HK1.out; have := HK2.out; have := HJ12.out; have := HJ23.out; have := HK5.out; have := HJ29.out; omega
                    case rel => exact ⟨(x6_12), (x7_5), (wrap64 (x37_2 + 1)), (by first | rfl | (simp; done) | (simp [*]; done)), (by first | rfl | (simp; done) | (simp [*]; done)), H', ⟨by have := HK1.out; have := HK2.out; have := HJ12.out; have := HJ23.out; have := HK5.out; have := HJ29.out; omega⟩, ⟨by (with_reducible repeat (first | apply Kd.R_alloc | apply Kd.R_drewN | apply Kd.R_drew)); exact HO_6.out⟩, ⟨by repeat (first | (with_reducible first | exact HB.out | apply below_alloc | apply pw_below_drewN | apply below_drew1) | exact HB.out)⟩⟩
         ·rw [if_neg c12] at H
          have c12b0 : decide (x37_2 < (l0.length : Int)) = false := decide_eq_false c12
          clear c12
          by_cases c41 : x7_2 ≥ 0
          ·rw [if_pos c41] at H
           have c41b0 : decide (0 ≤ x7_2) = true := decide_eq_true c41
           clear c41
           simp only [Option.some.injEq, Prod.mk.injEq] at H
           obtain ⟨rfl, rfl⟩ := H
           go_wp2
           go_ret2
           exact ⟨by first | rfl | (simp [errW_none, errW_some] <;> rfl) | (simp [*, errW_none, errW_some] <;> rfl), by repeat (first | (with_reducible first | exact HB.out | apply below_alloc | apply pw_below_drewN | apply below_drew1) | exact HB.out)⟩
          ·rw [if_neg c41] at H
           have c41b0 : decide (0 ≤ x7_2) = false := decide_eq_false c41
           clear c41
           simp only [Option.some.injEq, Prod.mk.injEq] at H
           obtain ⟨rfl, rfl⟩ := H
           go_wp2
           go_ret2
           exact ⟨by first | rfl | (simp [errW_none, errW_some] <;> rfl) | (simp [*, errW_none, errW_some] <;> rfl), by repeat (first | (with_reducible first | exact HB.out | apply below_alloc | apply pw_below_drewN | apply below_drew1) | exact HB.out)⟩
      ·rw [if_neg c9] at H
       exact absurd H (by simp)
     ·rw [if_neg c8] at H
      exact absurd H (by simp)

end Go.Proofs.Ythjcmodhleoocaa.Q
/- FDependUsable -/
namespace Go.Proofs.Ythjcmodhleoocaa.Q
open Go.RowKit Go.Proofs.YthjcmodhleoocaaW.PrintWords Go.Proofs.YthjcmodhleoocaaW.PrintLast Go.Proofs.YthjcmodhleoocaaW.PrintMore
attribute [local go_sem] max2_int min2_int max_two min_two max_three min_three max_four min_four   -- for this text's walks alone
set_option linter.unusedVariables false
set_option linter.unusedSimpArgs false

/-! ### depend_usable: function 37 -/
def depend_usable.f (k : Nat) (l0 : List Int) (a1 : Int) : Option (Bool) := (depend_Check.f k l0).bind fun bt208 => (if bt208.2 = 0 then (if a1 ≥ 0 then (some (decide (a1 < (l0.length : Int)))) else (some false)) else (some false))
theorem depend_usable.mono : ∀ a0 a1 k, LeO (depend_usable.f k a0 a1) (depend_usable.f (k + 1) a0 a1) := by
 intro a0 a1 k
 unfold depend_usable.f
 repeat' first
   | (with_reducible exact depend_Check.mono _ _)
   | (with_reducible exact LeO.refl _)
   | (with_reducible exact LeO.none _)
   | (with_reducible refine LeO.ite ?_ ?_)
   | (with_reducible refine LeO.bind ?_ (fun _ => ?_))
   | exact depend_Check.mono _ _
   | exact LeO.none _
   | refine LeO.ite ?_ ?_
   | refine LeO.bind ?_ (fun _ => ?_)
set_option maxHeartbeats 8000000 in
set_option maxRecDepth 100000 in
theorem depend_usable.calls (k : Nat) (A0 : Option Addr) (c0 : Nat) (l0 : List Int) (a1 : Int) (r : Bool) (w : World) (hr0 : Kd.C (Kd.int .i64) w A0 l0.length l0) (hc0 : l0.length ≤ c0) (h : depend_usable.f k l0 a1 = some r) :
  Calls Try.prog 37 #[.slice A0 l0.length c0, .int .i64 a1] w fun e w' => e = .returned (.bool r) ∧ Below w.heap.size w w' := by
 have HR0 := Aside0.mk hr0
 have HC0 := Aside0.mk hc0
 clear hr0 hc0
 have HB := Aside0.mk (Below.refl w.heap.size w)
 have H : ((depend_Check.f k l0).bind fun bt208 => (if bt208.2 = 0 then (if a1 ≥ 0 then (some (decide (a1 < (l0.length : Int)))) else (some false)) else (some false))) = some r := h
 clear h
 replace H := Option.bind_eq_some_iff.mp H
 obtain ⟨⟨t208, t209⟩, A30, H⟩ := H
 replace H : (if t209 = 0 then (if a1 ≥ 0 then (some (decide (a1 < (l0.length : Int)))) else (some false)) else (some false)) = some r := H
 have A3 := Aside0.mk A30
 clear A30
 by_cases c4 : t209 = 0
 ·rw [if_pos c4] at H
  have c4b0 : (t209 == 0) = true := beq_iff_eq.mpr c4
  have c4b1 : (t209 != 0) = false := bne_eq_false_iff_eq.mpr c4
  clear c4
  by_cases c5 : a1 ≥ 0
  ·rw [if_pos c5] at H
   have c5b0 : decide (0 ≤ a1) = true := decide_eq_true c5
   clear c5
   obtain rfl := Option.some.inj H
   go_enter Try.func37, Try.ntmps37
   go_wp2_with (first | ((with_reducible refine gate_callee (f := 28) rfl ?_); refine goesL_ (some 9) rfl rfl Try.func28 (by kernel_rfl) rfl #[.slice A0 l0.length c0] rfl (by (try simp only [List.map_toArray, List.map_cons, List.map_nil]); first | done | rfl | (simp only [List.length_drop, List.length_take]; rfl)) ?_; (with_reducible refine (depend_Check.calls k _ _ l0 t208 t209 _ ?side1 ?side2 A3.out).mono ?_); (case side1 => repeat (first | exact HR0.out | (with_reducible refine Kd.C_alloc ?_ _) | (with_reducible refine Kd.C_drewN ?_ _) | (with_reducible refine Kd.C_drew ?_))); (case side2 => exact HC0.out); rintro e w6 ⟨rfl, hb⟩; refine ⟨_, rfl, ?_⟩; have n0_ := Aside0.mk (below_step (by repeat (first | (with_reducible first | exact HB.out | apply below_alloc | apply pw_below_drewN | apply below_drew1) | exact HB.out)) hb); clear HB; have HB := n0_; clear n0_; (try clear hb); (try clear hb2); (try clear hk); (try clear hi)))
   go_ret
   exact ⟨by first | rfl | (simp [errW_none, errW_some] <;> rfl) | (simp [*, errW_none, errW_some] <;> rfl), by repeat (first | (with_reducible first | exact HB.out | apply below_alloc | apply pw_below_drewN | apply below_drew1) | exact HB.out)⟩
  ·rw [if_neg c5] at H
   have c5b0 : decide (0 ≤ a1) = false := decide_eq_false c5
   clear c5
   obtain rfl := Option.some.inj H
   go_enter Try.func37, Try.ntmps37
   go_wp2_with (first | ((with_reducible refine gate_callee (f := 28) rfl ?_); refine goesL_ (some 9) rfl rfl Try.func28 (by kernel_rfl) rfl #[.slice A0 l0.length c0] rfl (by (try simp only [List.map_toArray, List.map_cons, List.map_nil]); first | done | rfl | (simp only [List.length_drop, List.length_take]; rfl)) ?_; (with_reducible refine (depend_Check.calls k _ _ l0 t208 t209 _ ?side1 ?side2 A3.out).mono ?_); (case side1 => repeat (first | exact HR0.out | (with_reducible refine Kd.C_alloc ?_ _) | (with_reducible refine Kd.C_drewN ?_ _) | (with_reducible refine Kd.C_drew ?_))); (case side2 => exact HC0.out); rintro e w7 ⟨rfl, hb⟩; refine ⟨_, rfl, ?_⟩; have n0_ := Aside0.mk (below_step (by repeat (first | (with_reducible first | exact HB.out | apply below_alloc | apply pw_below_drewN | apply below_drew1) | exact HB.out)) hb); clear HB; have HB := n0_; clear n0_; (try clear hb); (try clear hb2); (try clear hk); (try clear hi)))
   go_ret
   exact ⟨by first | rfl | (simp [errW_none, errW_some] <;> rfl) | (simp [*, errW_none, errW_some] <;> rfl), by repeat (first | (with_reducible first | exact HB.out | apply below_alloc | apply pw_below_drewN | apply below_drew1) | exact HB.out)⟩
 ·rw [if_neg c4] at H
  have c4b0 : (t209 == 0) = false := beq_eq_false_iff_ne.mpr c4
  have c4b1 : (t209 != 0) = true := bne_iff_ne.mpr c4
  obtain rfl := Option.some.inj H
  go_enter Try.func37, Try.ntmps37
  go_wp2_with (first | ((with_reducible refine gate_callee (f := 28) rfl ?_); refine goesL_ (some 9) rfl rfl Try.func28 (by kernel_rfl) rfl #[.slice A0 l0.length c0] rfl (by (try simp only [List.map_toArray, List.map_cons, List.map_nil]); first | done | rfl | (simp only [List.length_drop, List.length_take]; rfl)) ?_; (with_reducible refine (depend_Check.calls k _ _ l0 t208 t209 _ ?side1 ?side2 A3.out).mono ?_); (case side1 => repeat (first | exact HR0.out | (with_reducible refine Kd.C_alloc ?_ _) | (with_reducible refine Kd.C_drewN ?_ _) | (with_reducible refine Kd.C_drew ?_))); (case side2 => exact HC0.out); rintro e w8 ⟨rfl, hb⟩; refine ⟨_, rfl, ?_⟩; have n0_ := Aside0.mk (below_step (by repeat (first | (with_reducible first | exact HB.out | apply below_alloc | apply pw_below_drewN | apply below_drew1) | exact HB.out)) hb); clear HB; have HB := n0_; clear n0_; (try clear hb); (try clear hb2); (try clear hk); (try clear hi)))
  go_ret
  exact ⟨by first | rfl | (simp [errW_none, errW_some] <;> rfl) | (simp [*, errW_none, errW_some] <;> rfl), by repeat (first | (with_reducible first | exact HB.out | apply below_alloc | apply pw_below_drewN | apply below_drew1) | exact HB.out)⟩

end Go.Proofs.Ythjcmodhleoocaa.Q
/- FDependWay -/
namespace Go.Proofs.Ythjcmodhleoocaa.Q
open Go.RowKit Go.Proofs.YthjcmodhleoocaaW.PrintWords Go.Proofs.YthjcmodhleoocaaW.PrintLast Go.Proofs.YthjcmodhleoocaaW.PrintMore
attribute [local go_sem] max2_int min2_int max_two min_two max_three min_three max_four min_four   -- for this text's walks alone
set_option linter.unusedVariables false
set_option linter.unusedSimpArgs false

/-! ### depend_way: function 38 -/
def depend_way.l0 : Nat → List Int → Int → List Int → Option (List Int)
 | 0, _, _, _ => none
 | k + 1, x0, x1, x5 => if x1 ≥ 0 then (if x5.length < 17592186044416 then (if 0 ≤ x1 then (if x1 < (x0.length : Int) then (depend_way.l0 k x0 (rd x0 x1) (x5 ++ [x1])) else (none)) else (none)) else (none)) else (some x5)
def depend_way.f (k : Nat) (l0 : List Int) (a1 : Int) : Option (List Int) := depend_way.l0 k l0 a1 ([] : List Int)
theorem depend_way.mono_l : ∀ k, (∀ y0 y1 y2, LeO (depend_way.l0 k y0 y1 y2) (depend_way.l0 (k + 1) y0 y1 y2))
 | 0 => fun _ _ _ r h => by simp [depend_way.l0] at h
 | k + 1 => by
  have ih0 := depend_way.mono_l k
  ·intro y0 y1 y2
   unfold depend_way.l0
   repeat' first
   | (with_reducible exact ih0 _ _ _)
   | (with_reducible exact LeO.refl _)
   | (with_reducible exact LeO.none _)
   | (with_reducible refine LeO.ite ?_ ?_)
   | (with_reducible refine LeO.bind ?_ (fun _ => ?_))
   | exact ih0 _ _ _
   | exact LeO.none _
   | refine LeO.ite ?_ ?_
   | refine LeO.bind ?_ (fun _ => ?_)
theorem depend_way.mono : ∀ a0 a1 k, LeO (depend_way.f k a0 a1) (depend_way.f (k + 1) a0 a1) := by
 intro a0 a1 k
 have ih0 := depend_way.mono_l k
 unfold depend_way.f
 repeat' first
   | (with_reducible exact ih0 _ _ _)
   | (with_reducible exact LeO.refl _)
   | (with_reducible exact LeO.none _)
   | (with_reducible refine LeO.ite ?_ ?_)
   | (with_reducible refine LeO.bind ?_ (fun _ => ?_))
   | exact ih0 _ _ _
   | exact LeO.none _
   | refine LeO.ite ?_ ?_
   | refine LeO.bind ?_ (fun _ => ?_)
set_option maxHeartbeats 8000000 in
set_option maxRecDepth 100000 in
theorem depend_way.calls (k : Nat) (A0 : Option Addr) (c0 : Nat) (l0 : List Int) (a1 : Int) (r : List Int) (w : World) (hr0 : Kd.C (Kd.int .i64) w A0 l0.length l0) (hc0 : l0.length ≤ c0) (h : depend_way.f k l0 a1 = some r) :
  Calls Try.prog 38 #[.slice A0 l0.length c0, .int .i64 a1] w fun e w' => ∃ v0_ : Value, e = .returned (v0_) ∧ Kd.R (Kd.int .i64) 3 w' w.heap.size (fun _ => True) v0_ r ∧ Below w.heap.size w w' := by
 have HR0 := Aside0.mk hr0
 have HC0 := Aside0.mk hc0
 clear hr0 hc0
 have HB := Aside0.mk (Below.refl w.heap.size w)
 have H : (depend_way.l0 k l0 a1 ([] : List Int)) = some r := h
 clear h
 have H' := Aside0.mk H
 clear H
 go_enter Try.func38, Try.ntmps38
 go_wp2
 go_loopg [1, 5] k (fun kq v1 v5 w' => ∃ (x1_1 : Int) (x5_1 : List Int), v1 = .int .i64 x1_1 ∧ Aside0 (depend_way.l0 kq l0 x1_1 x5_1 = some r) ∧ Aside0 (kq ≤ k) ∧ Aside0 (Kd.R (Kd.int .i64) 3 w' w.heap.size (fun _ => True) v5 x5_1) ∧ Aside0 (Below w.heap.size w w'))
 case atStart => exact ⟨(a1), (([] : List Int)), (by first | rfl | (simp; done) | (simp [*]; done)), H', ⟨Nat.le_refl _⟩, ⟨by first | exact Kd.R_nil _ _ _ _ _ | exact Kd.N_nil _ _ _ _ _ | exact Kd.V_nil _ _ _ _ _ | exact Kd.Q_nil _ _ _ _ _ | exact Kd.S_nil _ _ _ _ _⟩, ⟨by repeat (first | (with_reducible first | exact HB.out | apply below_alloc | apply pw_below_drewN | apply below_drew1) | exact HB.out)⟩⟩
 case round =>
  clear H'
  try clear p2
  obtain ⟨x1_1, x5_1, rfl, HA, HK1, HO_5, HB⟩ := hrel
  cases gk with
  | zero => exact absurd HA.out (by simp [depend_way.l0])
  | succ k1 =>
   have H := HA.out
   clear HA
   simp only [depend_way.l0] at H
   by_cases c3 : x1_1 ≥ 0
   ·rw [if_pos c3] at H
    have c3b0 : decide (0 ≤ x1_1) = true := decide_eq_true c3
    clear c3
    by_cases c4 : x5_1.length < 17592186044416
    ·rw [if_pos c4] at H
     have LMc4 := Aside0.mk c4
     clear c4
     obtain ⟨y210, hy210⟩ : ∃ y_ : List Int, y_ = (x5_1 ++ [x1_1]) := ⟨_, rfl⟩
     replace H : (if 0 ≤ x1_1 then (if x1_1 < (l0.length : Int) then (depend_way.l0 k1 l0 (rd l0 x1_1) y210) else (none)) else (none)) = some r := by first | (rw [hy210]; with_reducible exact H) | (have H2_ := (Option.bind_some _ _).symm.trans H; rw [hy210]; with_reducible exact H2_) | (have H2_ := (Option.bind_some _ _).symm.trans H; with_reducible exact H2_) | with_reducible exact H | (rw [hy210]; exact H) | exact H
     have Ny210 := Aside0.mk hy210
     clear hy210
     by_cases c5 : 0 ≤ x1_1
     ·rw [if_pos c5] at H
      have c5b0 : decide (0 ≤ x1_1) = true := decide_eq_true c5
      clear c5
      by_cases c6 : x1_1 < (l0.length : Int)
      ·rw [if_pos c6] at H
       have c6b0 : decide (x1_1 < (l0.length : Int)) = true := decide_eq_true c6
       clear c6
       have H' := Aside0.mk H
       clear H
       go_wp2_with (first | ((with_reducible refine gate_builtin (b := .append) (xs := #[.tmp 12, .tmp 14]) rfl ?_); at_builtin; refine Kd.R_append (Kd.int .i64) (w0 := w) w.heap.size rfl (.tmp 12) (.tmp 14) 22 3 (.int .i64 0) 8 rfl Try.underlying22 info3 rfl (by decide) (by omega) u5 x5_1 x1_1 [.int .i64 x1_1] (fun _ => True) (fun _ => False) rfl rfl ?aP (fun _ hk => hk.elim) ?aF ?aO ?aB ?aS ?aL ?_; (case aP => exact rfl); (case aB => exact (by repeat (first | (with_reducible first | exact HB.out | apply below_alloc | apply pw_below_drewN | apply below_drew1) | exact HB.out))); (case aF => exact (fun _ _ => trivial)); (case aO => exact (by (with_reducible repeat (first | apply Kd.R_alloc | apply Kd.R_drewN | apply Kd.R_drew)); exact HO_5.out)); (case aS => exact (below_size (by repeat (first | (with_reducible first | exact HB.out | apply below_alloc | apply pw_below_drewN | apply below_drew1) | exact HB.out)))); (case aL => have := LMc4.out; omega); intro v211 w7 ho hb hg hat; rw [← Ny210.out] at ho; have n0_ := Aside0.mk (hb); have n1_ := Aside0.mk (ho); clear HB; clear HO_5; have HB := n0_; have HO212 := n1_; clear n0_ n1_; clear ho hb hg hat; have p213 : 0 ≤ (x1_1 : Int) := of_decide_eq_true (by first | (with_reducible assumption) | assumption); have q213 : x1_1 < (l0.length : Int) := of_decide_eq_true (by first | (with_reducible assumption) | assumption); obtain ⟨ad213, e213, hx213_0⟩ := Kd.at_int HR0.out x1_1 p213 q213; cases e213; replace hx213_0 := (HB.out.cell (World.block_lt_of_cell? w _ hx213_0)).trans hx213_0; replace p213 := eq_true p213; replace q213 := eq_true q213))
       go_roundg k1
       case measure => have := HK1.out; omega
       case rel => exact ⟨(rd l0 x1_1), (y210), (by first | rfl | (simp; done) | (simp [*]; done)), H', ⟨by have := HK1.out; omega⟩, ⟨by (with_reducible repeat (first | apply Kd.R_alloc | apply Kd.R_drewN | apply Kd.R_drew)); exact HO212.out⟩, ⟨by repeat (first | (with_reducible first | exact HB.out | apply below_alloc | apply pw_below_drewN | apply below_drew1) | exact HB.out)⟩⟩
      ·rw [if_neg c6] at H
       exact absurd H (by simp)
     ·rw [if_neg c5] at H
      exact absurd H (by simp)
    ·rw [if_neg c4] at H
     exact absurd H (by simp)
   ·rw [if_neg c3] at H
    have c3b0 : decide (0 ≤ x1_1) = false := decide_eq_false c3
    clear c3
    obtain rfl := Option.some.inj H
    go_wp2
    go_ret
    exact ⟨_, by first | rfl | (simp [errW_none, errW_some] <;> rfl) | (simp [*, errW_none, errW_some] <;> rfl), by (with_reducible repeat (first | apply Kd.R_alloc | apply Kd.R_drewN | apply Kd.R_drew)); exact HO_5.out, by repeat (first | (with_reducible first | exact HB.out | apply below_alloc | apply pw_below_drewN | apply below_drew1) | exact HB.out)⟩

end Go.Proofs.Ythjcmodhleoocaa.Q
/- FDependPath -/
namespace Go.Proofs.Ythjcmodhleoocaa.Q
open Go.RowKit Go.Proofs.YthjcmodhleoocaaW.PrintWords Go.Proofs.YthjcmodhleoocaaW.PrintLast Go.Proofs.YthjcmodhleoocaaW.PrintMore
attribute [local go_sem] max2_int min2_int max_two min_two max_three min_three max_four min_four   -- for this text's walks alone
set_option linter.unusedVariables false
set_option linter.unusedSimpArgs false

/-! ### depend_Path: function 29 -/
mutual
def depend_Path.j0 : Nat → List Int → Int → Int → Bool → Option (List Int × Int)
 | 0, _, _, _, _ => none
 | k + 1, x0, x1, x2, x28 => if x28 = true then (some (([] : List Int), 1)) else ((depend_way.f k x0 x1).bind fun t215 => ((depend_way.f k x0 x2).bind fun t218 => (depend_Path.l0 k x0 t215 t218 (t215.length : Int) 0)))
def depend_Path.j3 : Nat → List Int → List Int → List Int → Option (List Int × Int)
 | 0, _, _, _ => none
 | k + 1, x0, x8, x9 => if (x9.length : Int) > 0 then (if 0 ≤ (wrap64 ((x9.length : Int) - 1)) then (if (wrap64 ((x9.length : Int) - 1)) < (x9.length : Int) then (if 0 ≤ (rd x9 (wrap64 ((x9.length : Int) - 1))) then (if (rd x9 (wrap64 ((x9.length : Int) - 1))) < (x0.length : Int) then (if 0 ≤ (wrap64 ((x8.length : Int) - 1)) then (if (wrap64 ((x8.length : Int) - 1)) < (x8.length : Int) then (depend_Path.j4 k x8 x9 ((rd x0 (rd x9 (wrap64 ((x9.length : Int) - 1)))) != (rd x8 (wrap64 ((x8.length : Int) - 1))))) else (none)) else (none)) else (none)) else (none)) else (none)) else (none)) else (depend_Path.j4 k x8 x9 false)
def depend_Path.j4 : Nat → List Int → List Int → Bool → Option (List Int × Int)
 | 0, _, _, _ => none
 | k + 1, x8, x9, x81 => if x81 = true then (some (([] : List Int), 11)) else (depend_Path.l2 k x8 x9 (wrap64 ((x9.length : Int) - 1)))
def depend_Path.l2 : Nat → List Int → List Int → Int → Option (List Int × Int)
 | 0, _, _, _ => none
 | k + 1, x8, x9, x14 => if x14 ≥ 0 then (if 0 ≤ x14 then (if x14 < (x9.length : Int) then (if x8.length < 17592186044416 then (depend_Path.l2 k (x8 ++ [rd x9 x14]) x9 (wrap64 (x14 - 1))) else (none)) else (none)) else (none)) else (some (x8, 0))
def depend_Path.l0 : Nat → List Int → List Int → List Int → Int → Int → Option (List Int × Int)
 | 0, _, _, _, _, _ => none
 | k + 1, x0, x8, x9, x36, x37 => if x37 < x36 then (if 0 ≤ x37 then (if x37 < (x8.length : Int) then (depend_Path.l1 k x0 x8 x9 x37 (rd x8 x37) x36 x37 (x9.length : Int) 0) else (none)) else (none)) else (depend_Path.j3 k x0 x8 x9)
def depend_Path.l1 : Nat → List Int → List Int → List Int → Int → Int → Int → Int → Int → Int → Option (List Int × Int)
 | 0, _, _, _, _, _, _, _, _, _ => none
 | k + 1, x0, x8, x9, x10, x11, x36, x37, x43, x44 => if x44 < x43 then (if 0 ≤ x44 then (if x44 < (x9.length : Int) then (if x11 = (rd x9 x44) then (if 0 ≤ (wrap64 (x10 + 1)) then (if (wrap64 (x10 + 1)) ≤ (x8.length : Int) then (if x44 ≤ (x9.length : Int) then (depend_Path.j3 k x0 (x8.take ((wrap64 (x10 + 1)) : Int).toNat) (x9.take (x44 : Int).toNat)) else (none)) else (none)) else (none)) else (depend_Path.l1 k x0 x8 x9 x10 x11 x36 x37 x43 (wrap64 (x44 + 1)))) else (none)) else (none)) else (depend_Path.l0 k x0 x8 x9 x36 (wrap64 (x37 + 1)))
end
def depend_Path.f (k : Nat) (l0 : List Int) (a1 : Int) (a2 : Int) : Option (List Int × Int) := (depend_usable.f k l0 a1).bind fun t214 => (if t214 = true then (if a2 < 0 then (depend_Path.j0 k l0 a1 a2 true) else (depend_Path.j0 k l0 a1 a2 (decide (a2 ≥ (l0.length : Int))))) else (depend_Path.j0 k l0 a1 a2 true))
theorem depend_Path.mono_l : ∀ k, (∀ y0 y1 y2 y3, LeO (depend_Path.j0 k y0 y1 y2 y3) (depend_Path.j0 (k + 1) y0 y1 y2 y3)) ∧ (∀ y0 y1 y2, LeO (depend_Path.j3 k y0 y1 y2) (depend_Path.j3 (k + 1) y0 y1 y2)) ∧ (∀ y0 y1 y2, LeO (depend_Path.j4 k y0 y1 y2) (depend_Path.j4 (k + 1) y0 y1 y2)) ∧ (∀ y0 y1 y2, LeO (depend_Path.l2 k y0 y1 y2) (depend_Path.l2 (k + 1) y0 y1 y2)) ∧ (∀ y0 y1 y2 y3 y4, LeO (depend_Path.l0 k y0 y1 y2 y3 y4) (depend_Path.l0 (k + 1) y0 y1 y2 y3 y4)) ∧ (∀ y0 y1 y2 y3 y4 y5 y6 y7 y8, LeO (depend_Path.l1 k y0 y1 y2 y3 y4 y5 y6 y7 y8) (depend_Path.l1 (k + 1) y0 y1 y2 y3 y4 y5 y6 y7 y8))
 | 0 => ⟨fun _ _ _ _ r h => by simp [depend_Path.j0] at h, fun _ _ _ r h => by simp [depend_Path.j3] at h, fun _ _ _ r h => by simp [depend_Path.j4] at h, fun _ _ _ r h => by simp [depend_Path.l2] at h, fun _ _ _ _ _ r h => by simp [depend_Path.l0] at h, fun _ _ _ _ _ _ _ _ _ r h => by simp [depend_Path.l1] at h⟩
 | k + 1 => by
  obtain ⟨ih0, ih1, ih2, ih3, ih4, ih5⟩ := depend_Path.mono_l k
  refine ⟨?_, ?_, ?_, ?_, ?_, ?_⟩
  ·intro y0 y1 y2 y3
   unfold depend_Path.j0
   repeat' first
   | (with_reducible exact ih0 _ _ _ _)
   | (with_reducible exact ih1 _ _ _)
   | (with_reducible exact ih2 _ _ _)
   | (with_reducible exact ih3 _ _ _)
   | (with_reducible exact ih4 _ _ _ _ _)
   | (with_reducible exact ih5 _ _ _ _ _ _ _ _ _)
   | (with_reducible exact depend_usable.mono _ _ _)
   | (with_reducible exact depend_way.mono _ _ _)
   | (with_reducible exact LeO.refl _)
   | (with_reducible exact LeO.none _)
   | (with_reducible refine LeO.ite ?_ ?_)
   | (with_reducible refine LeO.bind ?_ (fun _ => ?_))
   | exact ih0 _ _ _ _
   | exact ih1 _ _ _
   | exact ih2 _ _ _
   | exact ih3 _ _ _
   | exact ih4 _ _ _ _ _
   | exact ih5 _ _ _ _ _ _ _ _ _
   | exact depend_usable.mono _ _ _
   | exact depend_way.mono _ _ _
   | exact LeO.none _
   | refine LeO.ite ?_ ?_
   | refine LeO.bind ?_ (fun _ => ?_)
  ·intro y0 y1 y2
   unfold depend_Path.j3
   repeat' first
   | (with_reducible exact ih0 _ _ _ _)
   | (with_reducible exact ih1 _ _ _)
   | (with_reducible exact ih2 _ _ _)
   | (with_reducible exact ih3 _ _ _)
   | (with_reducible exact ih4 _ _ _ _ _)
   | (with_reducible exact ih5 _ _ _ _ _ _ _ _ _)
   | (with_reducible exact depend_usable.mono _ _ _)
   | (with_reducible exact depend_way.mono _ _ _)
   | (with_reducible exact LeO.refl _)
   | (with_reducible exact LeO.none _)
   | (with_reducible refine LeO.ite ?_ ?_)
   | (with_reducible refine LeO.bind ?_ (fun _ => ?_))
   | exact ih0 _ _ _ _
   | exact ih1 _ _ _
   | exact ih2 _ _ _
   | exact ih3 _ _ _
   | exact ih4 _ _ _ _ _
   | exact ih5 _ _ _ _ _ _ _ _ _
   | exact depend_usable.mono _ _ _
   | exact depend_way.mono _ _ _
   | exact LeO.none _
   | refine LeO.ite ?_ ?_
   | refine LeO.bind ?_ (fun _ => ?_)
  ·intro y0 y1 y2
   unfold depend_Path.j4
   repeat' first
   | (with_reducible exact ih0 _ _ _ _)
   | (with_reducible exact ih1 _ _ _)
   | (with_reducible exact ih2 _ _ _)
   | (with_reducible exact ih3 _ _ _)
   | (with_reducible exact ih4 _ _ _ _ _)
   | (with_reducible exact ih5 _ _ _ _ _ _ _ _ _)
   | (with_reducible exact depend_usable.mono _ _ _)
   | (with_reducible exact depend_way.mono _ _ _)
   | (with_reducible exact LeO.refl _)
   | (with_reducible exact LeO.none _)
   | (with_reducible refine LeO.ite ?_ ?_)
   | (with_reducible refine LeO.bind ?_ (fun _ => ?_))
   | exact ih0 _ _ _ _
   | exact ih1 _ _ _
   | exact ih2 _ _ _
   | exact ih3 _ _ _
   | exact ih4 _ _ _ _ _
   | exact ih5 _ _ _ _ _ _ _ _ _
   | exact depend_usable.mono _ _ _
   | exact depend_way.mono _ _ _
   | exact LeO.none _
   | refine LeO.ite ?_ ?_
   | refine LeO.bind ?_ (fun _ => ?_)
  ·intro y0 y1 y2
   unfold depend_Path.l2
   repeat' first
   | (with_reducible exact ih0 _ _ _ _)
   | (with_reducible exact ih1 _ _ _)
   | (with_reducible exact ih2 _ _ _)
   | (with_reducible exact ih3 _ _ _)
   | (with_reducible exact ih4 _ _ _ _ _)
   | (with_reducible exact ih5 _ _ _ _ _ _ _ _ _)
   | (with_reducible exact depend_usable.mono _ _ _)
   | (with_reducible exact depend_way.mono _ _ _)
   | (with_reducible exact LeO.refl _)
   | (with_reducible exact LeO.none _)
   | (with_reducible refine LeO.ite ?_ ?_)
   | (with_reducible refine LeO.bind ?_ (fun _ => ?_))
   | exact ih0 _ _ _ _
   | exact ih1 _ _ _
   | exact ih2 _ _ _
   | exact ih3 _ _ _
   | exact ih4 _ _ _ _ _
   | exact ih5 _ _ _ _ _ _ _ _ _
   | exact depend_usable.mono _ _ _
   | exact depend_way.mono _ _ _
   | exact LeO.none _
   | refine LeO.ite ?_ ?_
   | refine LeO.bind ?_ (fun _ => ?_)
  ·intro y0 y1 y2 y3 y4
   unfold depend_Path.l0
   repeat' first
   | (with_reducible exact ih0 _ _ _ _)
   | (with_reducible exact ih1 _ _ _)
   | (with_reducible exact ih2 _ _ _)
   | (with_reducible exact ih3 _ _ _)
   | (with_reducible exact ih4 _ _ _ _ _)
   | (with_reducible exact ih5 _ _ _ _ _ _ _ _ _)
   | (with_reducible exact depend_usable.mono _ _ _)
   | (with_reducible exact depend_way.mono _ _ _)
   | (with_reducible exact LeO.refl _)
   | (with_reducible exact LeO.none _)
   | (with_reducible refine LeO.ite ?_ ?_)
   | (with_reducible refine LeO.bind ?_ (fun _ => ?_))
   | exact ih0 _ _ _ _
   | exact ih1 _ _ _
   | exact ih2 _ _ _
   | exact ih3 _ _ _
   | exact ih4 _ _ _ _ _
   | exact ih5 _ _ _ _ _ _ _ _ _
   | exact depend_usable.mono _ _ _
   | exact depend_way.mono _ _ _
   | exact LeO.none _
   | refine LeO.ite ?_ ?_
   | refine LeO.bind ?_ (fun _ => ?_)
  ·intro y0 y1 y2 y3 y4 y5 y6 y7 y8
   unfold depend_Path.l1
   repeat' first
   | (with_reducible exact ih0 _ _ _ _)
   | (with_reducible exact ih1 _ _ _)
   | (with_reducible exact ih2 _ _ _)
   | (with_reducible exact ih3 _ _ _)
   | (with_reducible exact ih4 _ _ _ _ _)
   | (with_reducible exact ih5 _ _ _ _ _ _ _ _ _)
   | (with_reducible exact depend_usable.mono _ _ _)
   | (with_reducible exact depend_way.mono _ _ _)
   | (with_reducible exact LeO.refl _)
   | (with_reducible exact LeO.none _)
   | (with_reducible refine LeO.ite ?_ ?_)
   | (with_reducible refine LeO.bind ?_ (fun _ => ?_))
   | exact ih0 _ _ _ _
   | exact ih1 _ _ _
   | exact ih2 _ _ _
   | exact ih3 _ _ _
   | exact ih4 _ _ _ _ _
   | exact ih5 _ _ _ _ _ _ _ _ _
   | exact depend_usable.mono _ _ _
   | exact depend_way.mono _ _ _
   | exact LeO.none _
   | refine LeO.ite ?_ ?_
   | refine LeO.bind ?_ (fun _ => ?_)
theorem depend_Path.mono : ∀ a0 a1 a2 k, LeO (depend_Path.f k a0 a1 a2) (depend_Path.f (k + 1) a0 a1 a2) := by
 intro a0 a1 a2 k
 obtain ⟨ih0, ih1, ih2, ih3, ih4, ih5⟩ := depend_Path.mono_l k
 unfold depend_Path.f
 repeat' first
   | (with_reducible exact ih0 _ _ _ _)
   | (with_reducible exact ih1 _ _ _)
   | (with_reducible exact ih2 _ _ _)
   | (with_reducible exact ih3 _ _ _)
   | (with_reducible exact ih4 _ _ _ _ _)
   | (with_reducible exact ih5 _ _ _ _ _ _ _ _ _)
   | (with_reducible exact depend_usable.mono _ _ _)
   | (with_reducible exact depend_way.mono _ _ _)
   | (with_reducible exact LeO.refl _)
   | (with_reducible exact LeO.none _)
   | (with_reducible refine LeO.ite ?_ ?_)
   | (with_reducible refine LeO.bind ?_ (fun _ => ?_))
   | exact ih0 _ _ _ _
   | exact ih1 _ _ _
   | exact ih2 _ _ _
   | exact ih3 _ _ _
   | exact ih4 _ _ _ _ _
   | exact ih5 _ _ _ _ _ _ _ _ _
   | exact depend_usable.mono _ _ _
   | exact depend_way.mono _ _ _
   | exact LeO.none _
   | refine LeO.ite ?_ ?_
   | refine LeO.bind ?_ (fun _ => ?_)
set_option maxHeartbeats 8000000 in
set_option maxRecDepth 100000 in
theorem depend_Path.calls (k : Nat) (A0 : Option Addr) (c0 : Nat) (l0 : List Int) (a1 : Int) (a2 : Int) (r1 : List Int) (r2 : Int) (w : World) (hr0 : Kd.C (Kd.int .i64) w A0 l0.length l0) (hc0 : l0.length ≤ c0) (h : depend_Path.f k l0 a1 a2 = some (r1, r2)) :
  Calls Try.prog 29 #[.slice A0 l0.length c0, .int .i64 a1, .int .i64 a2] w fun e w' => ∃ v0_ : Value, e = .returned (.tuple #[v0_, .int .i64 r2]) ∧ Kd.R (Kd.int .i64) 3 w' w.heap.size (fun _ => True) v0_ r1 ∧ Below w.heap.size w w' := by
 have HR0 := Aside0.mk hr0
 have HC0 := Aside0.mk hc0
 clear hr0 hc0
 have HB := Aside0.mk (Below.refl w.heap.size w)
 have H : ((depend_usable.f k l0 a1).bind fun t214 => (if t214 = true then (if a2 < 0 then (depend_Path.j0 k l0 a1 a2 true) else (depend_Path.j0 k l0 a1 a2 (decide (a2 ≥ (l0.length : Int))))) else (depend_Path.j0 k l0 a1 a2 true))) = some (r1, r2) := h
 clear h
 have HC4 := Aside0.mk H
 clear H
 go_enter Try.func29, Try.ntmps29
 go_upto_region 1 with (fail)
 go_step3
 go_upto_region 1 with (fail)
 repeat (go_quiet (fail); go_upto_region 1 with (fail))
 go_cut [28] (fun v28 wc => ∃ (kq : Nat) (x28_3 : Bool), v28 = .bool x28_3 ∧ Aside0 (depend_Path.j0 kq l0 a1 a2 x28_3 = some (r1, r2)) ∧ Aside0 (kq ≤ k) ∧ Aside0 (Below w.heap.size w wc))
 case first =>
  have H := HC4.out
  clear HC4
  replace H := Option.bind_eq_some_iff.mp H
  obtain ⟨t214, A50, H⟩ := H
  replace H : (if t214 = true then (if a2 < 0 then (depend_Path.j0 k l0 a1 a2 true) else (depend_Path.j0 k l0 a1 a2 (decide (a2 ≥ (l0.length : Int))))) else (depend_Path.j0 k l0 a1 a2 true)) = some (r1, r2) := H
  have A5 := Aside0.mk A50
  clear A50
  by_cases c6 : t214 = true
  ·subst c6
   have H1 : (if a2 < 0 then (depend_Path.j0 k l0 a1 a2 true) else (depend_Path.j0 k l0 a1 a2 (decide (a2 ≥ (l0.length : Int))))) = some (r1, r2) := by rw [if_pos rfl] at H; exact H
   clear H
   have H := H1
   clear H1
   by_cases c7 : a2 < 0
   ·rw [if_pos c7] at H
    have c7b0 : decide (a2 < 0) = true := decide_eq_true c7
    clear c7
    (first | rw [c7b0] | (simp only [i64_w, i32_w]; rw [c7b0]) | skip)
    have H' := Aside0.mk H
    clear H
    go_wp2_with (first | (go_at_call 37; (with_reducible refine (depend_usable.calls k _ _ l0 a1 true _ ?side1 ?side2 A5.out).mono ?_); (case side1 => repeat (first | exact (Kd.C_below HR0.out HB.out) | (with_reducible refine Kd.C_alloc ?_ _) | (with_reducible refine Kd.C_drewN ?_ _) | (with_reducible refine Kd.C_drew ?_))); (case side2 => exact HC0.out); rintro e w8 ⟨rfl, hb⟩; have n0_ := Aside0.mk (below_step (by repeat (first | (with_reducible first | exact HB.out | apply below_alloc | apply pw_below_drewN | apply below_drew1) | exact HB.out)) hb); clear HB; have HB := n0_; clear n0_; (try clear hb); (try clear hb2); (try clear hk); (try clear hi)))
    repeat (go_quiet (first | (go_at_call 37; (with_reducible refine (depend_usable.calls k _ _ l0 a1 true _ ?side1 ?side2 A5.out).mono ?_); (case side1 => repeat (first | exact (Kd.C_below HR0.out HB.out) | (with_reducible refine Kd.C_alloc ?_ _) | (with_reducible refine Kd.C_drewN ?_ _) | (with_reducible refine Kd.C_drew ?_))); (case side2 => exact HC0.out); rintro e w8 ⟨rfl, hb⟩; have n0_ := Aside0.mk (below_step (by repeat (first | (with_reducible first | exact HB.out | apply below_alloc | apply pw_below_drewN | apply below_drew1) | exact HB.out)) hb); clear HB; have HB := n0_; clear n0_; (try clear hb); (try clear hb2); (try clear hk); (try clear hi))); try go_wp2_with (first | (go_at_call 37; (with_reducible refine (depend_usable.calls k _ _ l0 a1 true _ ?side1 ?side2 A5.out).mono ?_); (case side1 => repeat (first | exact (Kd.C_below HR0.out HB.out) | (with_reducible refine Kd.C_alloc ?_ _) | (with_reducible refine Kd.C_drewN ?_ _) | (with_reducible refine Kd.C_drew ?_))); (case side2 => exact HC0.out); rintro e w8 ⟨rfl, hb⟩; have n0_ := Aside0.mk (below_step (by repeat (first | (with_reducible first | exact HB.out | apply below_alloc | apply pw_below_drewN | apply below_drew1) | exact HB.out)) hb); clear HB; have HB := n0_; clear n0_; (try clear hb); (try clear hb2); (try clear hk); (try clear hi))))
    go_meet
    case rel => exact ⟨_, (true), (by first | rfl | (simp; done) | (simp [*]; done)), H', ⟨by first | omega | exact Nat.le_refl _⟩, ⟨by repeat (first | (with_reducible first | exact HB.out | apply below_alloc | apply pw_below_drewN | apply below_drew1) | exact HB.out)⟩⟩
   ·rw [if_neg c7] at H
    have c7b0 : decide (a2 < 0) = false := decide_eq_false c7
    clear c7
    (first | rw [c7b0] | (simp only [i64_w, i32_w]; rw [c7b0]) | skip)
    have H' := Aside0.mk H
    clear H
    go_wp2_with (first | (go_at_call 37; (with_reducible refine (depend_usable.calls k _ _ l0 a1 true _ ?side1 ?side2 A5.out).mono ?_); (case side1 => repeat (first | exact (Kd.C_below HR0.out HB.out) | (with_reducible refine Kd.C_alloc ?_ _) | (with_reducible refine Kd.C_drewN ?_ _) | (with_reducible refine Kd.C_drew ?_))); (case side2 => exact HC0.out); rintro e w9 ⟨rfl, hb⟩; have n0_ := Aside0.mk (below_step (by repeat (first | (with_reducible first | exact HB.out | apply below_alloc | apply pw_below_drewN | apply below_drew1) | exact HB.out)) hb); clear HB; have HB := n0_; clear n0_; (try clear hb); (try clear hb2); (try clear hk); (try clear hi)))
    repeat (go_quiet (first | (go_at_call 37; (with_reducible refine (depend_usable.calls k _ _ l0 a1 true _ ?side1 ?side2 A5.out).mono ?_); (case side1 => repeat (first | exact (Kd.C_below HR0.out HB.out) | (with_reducible refine Kd.C_alloc ?_ _) | (with_reducible refine Kd.C_drewN ?_ _) | (with_reducible refine Kd.C_drew ?_))); (case side2 => exact HC0.out); rintro e w9 ⟨rfl, hb⟩; have n0_ := Aside0.mk (below_step (by repeat (first | (with_reducible first | exact HB.out | apply below_alloc | apply pw_below_drewN | apply below_drew1) | exact HB.out)) hb); clear HB; have HB := n0_; clear n0_; (try clear hb); (try clear hb2); (try clear hk); (try clear hi))); try go_wp2_with (first | (go_at_call 37; (with_reducible refine (depend_usable.calls k _ _ l0 a1 true _ ?side1 ?side2 A5.out).mono ?_); (case side1 => repeat (first | exact (Kd.C_below HR0.out HB.out) | (with_reducible refine Kd.C_alloc ?_ _) | (with_reducible refine Kd.C_drewN ?_ _) | (with_reducible refine Kd.C_drew ?_))); (case side2 => exact HC0.out); rintro e w9 ⟨rfl, hb⟩; have n0_ := Aside0.mk (below_step (by repeat (first | (with_reducible first | exact HB.out | apply below_alloc | apply pw_below_drewN | apply below_drew1) | exact HB.out)) hb); clear HB; have HB := n0_; clear n0_; (try clear hb); (try clear hb2); (try clear hk); (try clear hi))))
    go_meet
    case rel => exact ⟨_, (decide (a2 ≥ (l0.length : Int))), (by first | rfl | (simp; done) | (simp [*]; done)), H', ⟨by first | omega | exact Nat.le_refl _⟩, ⟨by repeat (first | (with_reducible first | exact HB.out | apply below_alloc | apply pw_below_drewN | apply below_drew1) | exact HB.out)⟩⟩
  ·replace c6 := Bool.eq_false_iff.mpr c6
   subst c6
   have H1 : (depend_Path.j0 k l0 a1 a2 true) = some (r1, r2) := by rw [if_neg (show ¬ (false = true) by decide)] at H; exact H
   clear H
   have H := H1
   clear H1
   have H' := Aside0.mk H
   clear H
   go_wp2_with (first | (go_at_call 37; (with_reducible refine (depend_usable.calls k _ _ l0 a1 false _ ?side1 ?side2 A5.out).mono ?_); (case side1 => repeat (first | exact (Kd.C_below HR0.out HB.out) | (with_reducible refine Kd.C_alloc ?_ _) | (with_reducible refine Kd.C_drewN ?_ _) | (with_reducible refine Kd.C_drew ?_))); (case side2 => exact HC0.out); rintro e w10 ⟨rfl, hb⟩; have n0_ := Aside0.mk (below_step (by repeat (first | (with_reducible first | exact HB.out | apply below_alloc | apply pw_below_drewN | apply below_drew1) | exact HB.out)) hb); clear HB; have HB := n0_; clear n0_; (try clear hb); (try clear hb2); (try clear hk); (try clear hi)))
   repeat (go_quiet (first | (go_at_call 37; (with_reducible refine (depend_usable.calls k _ _ l0 a1 false _ ?side1 ?side2 A5.out).mono ?_); (case side1 => repeat (first | exact (Kd.C_below HR0.out HB.out) | (with_reducible refine Kd.C_alloc ?_ _) | (with_reducible refine Kd.C_drewN ?_ _) | (with_reducible refine Kd.C_drew ?_))); (case side2 => exact HC0.out); rintro e w10 ⟨rfl, hb⟩; have n0_ := Aside0.mk (below_step (by repeat (first | (with_reducible first | exact HB.out | apply below_alloc | apply pw_below_drewN | apply below_drew1) | exact HB.out)) hb); clear HB; have HB := n0_; clear n0_; (try clear hb); (try clear hb2); (try clear hk); (try clear hi))); try go_wp2_with (first | (go_at_call 37; (with_reducible refine (depend_usable.calls k _ _ l0 a1 false _ ?side1 ?side2 A5.out).mono ?_); (case side1 => repeat (first | exact (Kd.C_below HR0.out HB.out) | (with_reducible refine Kd.C_alloc ?_ _) | (with_reducible refine Kd.C_drewN ?_ _) | (with_reducible refine Kd.C_drew ?_))); (case side2 => exact HC0.out); rintro e w10 ⟨rfl, hb⟩; have n0_ := Aside0.mk (below_step (by repeat (first | (with_reducible first | exact HB.out | apply below_alloc | apply pw_below_drewN | apply below_drew1) | exact HB.out)) hb); clear HB; have HB := n0_; clear n0_; (try clear hb); (try clear hb2); (try clear hk); (try clear hi))))
   go_meet
   case rel => exact ⟨_, (true), (by first | rfl | (simp; done) | (simp [*]; done)), H', ⟨by first | omega | exact Nat.le_refl _⟩, ⟨by repeat (first | (with_reducible first | exact HB.out | apply below_alloc | apply pw_below_drewN | apply below_drew1) | exact HB.out)⟩⟩
 case rest =>
  clear HC4
  try clear c2
  try clear p2
  try clear c6
  try clear c7
  try clear c7b0
  obtain ⟨kq, x28_3, rfl, HA, HJ3, HB⟩ := hcut
  cases kq with
  | zero => exact absurd HA.out (by simp [depend_Path.j0])
  | succ kj3 =>
   have H := HA.out
   clear HA
   simp only [depend_Path.j0] at H
   by_cases c11 : x28_3 = true
   ·subst c11
    have H1 : (some (([] : List Int), 1)) = some (r1, r2) := by rw [if_pos rfl] at H; exact H
    clear H
    have H := H1
    clear H1
    simp only [Option.some.injEq, Prod.mk.injEq] at H
    obtain ⟨rfl, rfl⟩ := H
    go_wp2
    repeat (go_quiet (fail); try go_wp2)
    (try simp only [Exit.inBlock, Exit.then, Exit.noGoto_ret])
    go_ret2
    exact ⟨_, by first | rfl | (simp [errW_none, errW_some] <;> rfl) | (simp [*, errW_none, errW_some] <;> rfl), by first | exact Kd.R_nil _ _ _ _ _ | exact Kd.N_nil _ _ _ _ _ | exact Kd.V_nil _ _ _ _ _ | exact Kd.Q_nil _ _ _ _ _ | exact Kd.S_nil _ _ _ _ _, by repeat (first | (with_reducible first | exact HB.out | apply below_alloc | apply pw_below_drewN | apply below_drew1) | exact HB.out)⟩
   ·replace c11 := Bool.eq_false_iff.mpr c11
    subst c11
    have H1 : ((depend_way.f kj3 l0 a1).bind fun t215 => ((depend_way.f kj3 l0 a2).bind fun t218 => (depend_Path.l0 kj3 l0 t215 t218 (t215.length : Int) 0))) = some (r1, r2) := by rw [if_neg (show ¬ (false = true) by decide)] at H; exact H
    clear H
    have H := H1
    clear H1
    replace H := Option.bind_eq_some_iff.mp H
    obtain ⟨t215, A120, H⟩ := H
    replace H : ((depend_way.f kj3 l0 a2).bind fun t218 => (depend_Path.l0 kj3 l0 t215 t218 (t215.length : Int) 0)) = some (r1, r2) := H
    have A12 := Aside0.mk A120
    clear A120
    replace H := Option.bind_eq_some_iff.mp H
    obtain ⟨t218, A130, H⟩ := H
    replace H : (depend_Path.l0 kj3 l0 t215 t218 (t215.length : Int) 0) = some (r1, r2) := H
    have A13 := Aside0.mk A130
    clear A130
    have HC14 := Aside0.mk H
    clear H
    go_upto_block 0 with (first | (go_at_call 38; (with_reducible refine (depend_way.calls kj3 _ _ l0 a1 t215 _ ?side1 ?side2 A12.out).mono ?_); (case side1 => repeat (first | exact (Kd.C_below HR0.out HB.out) | (with_reducible refine Kd.C_alloc ?_ _) | (with_reducible refine Kd.C_drewN ?_ _) | (with_reducible refine Kd.C_drew ?_))); (case side2 => exact HC0.out); rintro e w15 ⟨v216, rfl, ho0, hb⟩; have n0_ := Aside0.mk (Kd.R_lower ho0 (below_size (by repeat (first | (with_reducible first | exact HB.out | apply below_alloc | apply pw_below_drewN | apply below_drew1) | exact HB.out)))); have n1_ := Aside0.mk (below_step (by repeat (first | (with_reducible first | exact HB.out | apply below_alloc | apply pw_below_drewN | apply below_drew1) | exact HB.out)) hb); clear HB; have HO217 := n0_; have HB := n1_; clear n0_ n1_; (try clear hb); (try clear hb2); (try clear hk); (try clear hi); (try clear ho0)) | (go_at_call 38; (with_reducible refine (depend_way.calls kj3 _ _ l0 a2 t218 _ ?side1 ?side2 A13.out).mono ?_); (case side1 => repeat (first | exact (Kd.C_below HR0.out HB.out) | (with_reducible refine Kd.C_alloc ?_ _) | (with_reducible refine Kd.C_drewN ?_ _) | (with_reducible refine Kd.C_drew ?_))); (case side2 => exact HC0.out); rintro e w16 ⟨v219, rfl, ho0, hb⟩; have n0_ := Aside0.mk (Kd.R_elder' (by (with_reducible repeat (first | apply Kd.R_alloc | apply Kd.R_drewN | apply Kd.R_drew)); exact HO217.out) (Kd.R_base ho0) hb); have n1_ := Aside0.mk (Kd.R_lower (Kd.R_new' ho0 (Kd.R_lt (by (with_reducible repeat (first | apply Kd.R_alloc | apply Kd.R_drewN | apply Kd.R_drew)); exact HO217.out))) (below_size (by repeat (first | (with_reducible first | exact HB.out | apply below_alloc | apply pw_below_drewN | apply below_drew1) | exact HB.out)))); have n2_ := Aside0.mk (below_step (by repeat (first | (with_reducible first | exact HB.out | apply below_alloc | apply pw_below_drewN | apply below_drew1) | exact HB.out)) hb); clear HO217; clear HB; have HO217 := n0_; have HO220 := n1_; have HB := n2_; clear n0_ n1_ n2_; (try clear hb); (try clear hb2); (try clear hk); (try clear hi); (try clear ho0); obtain ⟨Ao17, co17, eo17⟩ := Kd.R_slice HO217.out; subst eo17))
    go_step3
    go_upto_block 0 with (fail)
    (try simp only [Act.put, List.setIfInBounds_toArray, List.set_cons_zero, List.set_cons_succ])
    obtain ⟨Ao18, co18, eo18⟩ := Kd.R_slice HO220.out
    subst eo18
    go_cut [8, 9] (fun v8 v9 wc => ∃ (kq : Nat) (x8_13 : List Int) (x9_13 : List Int), Aside0 (depend_Path.j3 kq l0 x8_13 x9_13 = some (r1, r2)) ∧ Aside0 (kq ≤ kj3) ∧ Aside0 (Kd.R (Kd.int .i64) 3 wc w.heap.size (fun k_ => some k_ ≠ (v9 : Value).ownBlock) v8 x8_13) ∧ Aside0 (Kd.R (Kd.int .i64) 3 wc w.heap.size (fun k_ => some k_ ≠ (v8 : Value).ownBlock) v9 x9_13) ∧ Aside0 (Below w.heap.size w wc))
    case first =>
     have H := HC14.out
     clear HC14
     have H' := Aside0.mk H
     clear H
     go_wp2
     repeat (go_quiet (fail); try go_wp2)
     go_loopg [8, 9, 37] kj3 (fun kq v8 v9 v37 w' => ∃ (x37_2 : Int), v8 = (.slice Ao17 t215.length co17) ∧ v9 = (.slice Ao18 t218.length co18) ∧ v37 = .int .i64 x37_2 ∧ Aside0 (depend_Path.l0 kq l0 t215 t218 (t215.length : Int) x37_2 = some (r1, r2)) ∧ Aside0 (kq ≤ kj3) ∧ Aside0 (Kd.R (Kd.int .i64) 3 w' w.heap.size (fun k_ => some k_ ≠ ((.slice Ao18 t218.length co18) : Value).ownBlock) (.slice Ao17 t215.length co17) t215) ∧ Aside0 (Kd.R (Kd.int .i64) 3 w' w.heap.size (fun k_ => some k_ ≠ ((.slice Ao17 t215.length co17) : Value).ownBlock) (.slice Ao18 t218.length co18) t218) ∧ Aside0 (Below w.heap.size w w'))
     case atStart => exact ⟨(0), rfl, rfl, (by first | rfl | (simp; done) | (simp [*]; done)), H', ⟨Nat.le_refl _⟩, ⟨by (with_reducible repeat (first | apply Kd.R_alloc | apply Kd.R_drewN | apply Kd.R_drew)); exact Kd.R_mono HO217.out (fun _ hk => hk.2)⟩, ⟨by (with_reducible repeat (first | apply Kd.R_alloc | apply Kd.R_drewN | apply Kd.R_drew)); exact Kd.R_mono HO220.out (fun _ hk => hk.2)⟩, ⟨by repeat (first | (with_reducible first | exact HB.out | apply below_alloc | apply pw_below_drewN | apply below_drew1) | exact HB.out)⟩⟩
     case round =>
      clear H'
      try clear c1
      try clear c2
      try clear p2
      try clear c6
      try clear c7
      try clear c7b0
      try clear c11
      try clear p2
      obtain ⟨x37_2, rfl, rfl, rfl, HA, HK2, HO_8, HO_9, HB⟩ := hrel
      cases gk with
      | zero => exact absurd HA.out (by simp [depend_Path.l0])
      | succ k2 =>
       have H := HA.out
       clear HA
       simp only [depend_Path.l0] at H
       by_cases c18 : x37_2 < (t215.length : Int)
       ·rw [if_pos c18] at H
        have c18b0 : decide (x37_2 < (t215.length : Int)) = true := decide_eq_true c18
        clear c18
        (first | rw [c18b0] | (simp only [i64_w, i32_w]; rw [c18b0]) | skip)
        by_cases c19 : 0 ≤ x37_2
        ·rw [if_pos c19] at H
         have c19b0 : decide (0 ≤ x37_2) = true := decide_eq_true c19
         clear c19
         by_cases c20 : x37_2 < (t215.length : Int)
         ·rw [if_pos c20] at H
          have c20b0 : decide (x37_2 < (t215.length : Int)) = true := decide_eq_true c20
          clear c20
          have H' := Aside0.mk H
          clear H
          have p221 : 0 ≤ (x37_2 : Int) := of_decide_eq_true (by first | (with_reducible assumption) | assumption)
          have q221 : x37_2 < (t215.length : Int) := of_decide_eq_true (by first | (with_reducible assumption) | assumption)
          obtain ⟨ad221, e221, hx221_0⟩ := Kd.at_int (Kd.R_reads' HO_8.out).2.2 x37_2 p221 q221
          cases e221
          replace p221 := eq_true p221
          replace q221 := eq_true q221
          go_wp2
          repeat (go_quiet (fail); try go_wp2)
          go_loopg [8, 9, 44] k2 (fun kq v8 v9 v44 w' => ∃ (x44_3 : Int), v8 = (.slice (some ad221) t215.length co17) ∧ v9 = (.slice Ao18 t218.length co18) ∧ v44 = .int .i64 x44_3 ∧ Aside0 (depend_Path.l1 kq l0 t215 t218 x37_2 (rd t215 x37_2) (t215.length : Int) x37_2 (t218.length : Int) x44_3 = some (r1, r2)) ∧ Aside0 (kq ≤ k2) ∧ Aside0 (Kd.R (Kd.int .i64) 3 w' w.heap.size (fun k_ => some k_ ≠ ((.slice Ao18 t218.length co18) : Value).ownBlock) (.slice (some ad221) t215.length co17) t215) ∧ Aside0 (Kd.R (Kd.int .i64) 3 w' w.heap.size (fun k_ => some k_ ≠ ((.slice (some ad221) t215.length co17) : Value).ownBlock) (.slice Ao18 t218.length co18) t218) ∧ Aside0 (Below w.heap.size w w'))
          case atStart => exact ⟨(0), rfl, rfl, (by first | rfl | (simp; done) | (simp [*]; done)), H', ⟨Nat.le_refl _⟩, ⟨by (with_reducible repeat (first | apply Kd.R_alloc | apply Kd.R_drewN | apply Kd.R_drew)); exact HO_8.out⟩, ⟨by (with_reducible repeat (first | apply Kd.R_alloc | apply Kd.R_drewN | apply Kd.R_drew)); exact HO_9.out⟩, ⟨by repeat (first | (with_reducible first | exact HB.out | apply below_alloc | apply pw_below_drewN | apply below_drew1) | exact HB.out)⟩⟩
          case round =>
           clear H'
           try clear c1
           try clear c2
           try clear p2
           try clear q2
           try clear hx2
           try clear c6
           try clear c7
           try clear c7b0
           try clear c11
           try clear c18
           try clear c18b0
           try clear c19
           try clear c19b0
           try clear c20
           try clear c20b0
           try clear p22
           try clear q22
           try clear hx22
           try clear hx221_0
           try clear p2
           try clear p221
           try clear q221
           obtain ⟨x44_3, rfl, rfl, rfl, HA, HK3, HO_8, HO_9, HB⟩ := hrel
           cases gk with
           | zero => exact absurd HA.out (by simp [depend_Path.l1])
           | succ k3 =>
            have H := HA.out
            clear HA
            simp only [depend_Path.l1] at H
            by_cases c23 : x44_3 < (t218.length : Int)
            ·rw [if_pos c23] at H
             have c23b0 : decide (x44_3 < (t218.length : Int)) = true := decide_eq_true c23
             clear c23
             by_cases c24 : 0 ≤ x44_3
             ·rw [if_pos c24] at H
              have c24b0 : decide (0 ≤ x44_3) = true := decide_eq_true c24
              clear c24
              by_cases c25 : x44_3 < (t218.length : Int)
              ·rw [if_pos c25] at H
               have c25b0 : decide (x44_3 < (t218.length : Int)) = true := decide_eq_true c25
               clear c25
               by_cases c26 : (rd t215 x37_2) = (rd t218 x44_3)
               ·rw [if_pos c26] at H
                have c26b0 : ((rd t215 x37_2) == (rd t218 x44_3)) = true := beq_iff_eq.mpr c26
                have c26b1 : ((rd t215 x37_2) != (rd t218 x44_3)) = false := bne_eq_false_iff_eq.mpr c26
                clear c26
                obtain ⟨ji27, hji27⟩ : ∃ j_ : Int, (wrap64 (x37_2 + 1)) = j_ := ⟨_, rfl⟩
                replace H : (if 0 ≤ (ji27) then (if (ji27) ≤ (t215.length : Int) then (if x44_3 ≤ (t218.length : Int) then (depend_Path.j3 k3 l0 (t215.take ((ji27) : Int).toNat) (t218.take (x44_3 : Int).toNat)) else (none)) else (none)) else (none)) = some (r1, r2) := by first | (rw [hji27] at H; exact H) | (simp only [hji27] at H ⊢; exact H)
                have hji27w : (IntKind.i64.wrap (x37_2 + 1)) = ji27 := (i64_w _).trans hji27
                by_cases c28 : 0 ≤ (ji27)
                ·rw [if_pos c28] at H
                 have c28b0 := eq_true c28
                 have c28b1 : decide (0 ≤ (ji27)) = true := decide_eq_true c28
                 clear c28
                 by_cases c29 : (ji27) ≤ (t215.length : Int)
                 ·rw [if_pos c29] at H
                  have c29b0 := eq_true c29
                  have c29b1 : decide ((ji27) ≤ (t215.length : Int)) = true := decide_eq_true c29
                  clear c29
                  obtain ⟨y223, hy223⟩ : ∃ y_ : List Int, y_ = (t215.take ((ji27) : Int).toNat) := ⟨_, rfl⟩
                  replace H : (if x44_3 ≤ (t218.length : Int) then (depend_Path.j3 k3 l0 y223 (t218.take (x44_3 : Int).toNat)) else (none)) = some (r1, r2) := by first | (rw [hy223]; with_reducible exact H) | (have H2_ := (Option.bind_some _ _).symm.trans H; rw [hy223]; with_reducible exact H2_) | (have H2_ := (Option.bind_some _ _).symm.trans H; with_reducible exact H2_) | with_reducible exact H | (rw [hy223]; exact H) | exact H
                  have Ny223 := Aside0.mk hy223
                  clear hy223
                  by_cases c30 : x44_3 ≤ (t218.length : Int)
                  ·rw [if_pos c30] at H
                   have c30b0 := eq_true c30
                   have c30b1 : decide (x44_3 ≤ (t218.length : Int)) = true := decide_eq_true c30
                   clear c30
                   obtain ⟨y226, hy226⟩ : ∃ y_ : List Int, y_ = (t218.take (x44_3 : Int).toNat) := ⟨_, rfl⟩
                   replace H : (depend_Path.j3 k3 l0 y223 y226) = some (r1, r2) := by first | (rw [hy226]; with_reducible exact H) | (have H2_ := (Option.bind_some _ _).symm.trans H; rw [hy226]; with_reducible exact H2_) | (have H2_ := (Option.bind_some _ _).symm.trans H; with_reducible exact H2_) | with_reducible exact H | (rw [hy226]; exact H) | exact H
                   have Ny226 := Aside0.mk hy226
                   clear hy226
                   have H' := Aside0.mk H
                   clear H
                   have p222 : 0 ≤ (x44_3 : Int) := of_decide_eq_true (by first | (with_reducible assumption) | assumption)
                   have q222 : x44_3 < (t218.length : Int) := of_decide_eq_true (by first | (with_reducible assumption) | assumption)
                   obtain ⟨ad222, e222, hx222_0⟩ := Kd.at_int (Kd.R_reads' HO_9.out).2.2 x44_3 p222 q222
                   cases e222
                   replace p222 := eq_true p222
                   replace q222 := eq_true q222
                   have q33 : ((ji27) : Int) ≤ ((t215.length : Int) : Int) := of_decide_eq_true (by first | (with_reducible assumption) | assumption)
                   obtain ⟨i033, hi033, _, hsz33, _⟩ := info_parts info3
                   have hcut33 := cut_to (P := Try.prog) 22 3 .i64 Try.underlying22 hi033 (some ad221) t215.length co17 (ji27) (of_decide_eq_true (by first | (with_reducible assumption) | assumption)) q33 (Kd.R_reads' HO_8.out).2.1
                   have hr33 := Kd.R_take (m := ((ji27) : Int).toNat) HO_8.out (by omega)
                   have hy33 : y223.length = ((ji27) : Int).toNat := (by rw [Ny223.out, List.length_take]; omega)
                   rw [← Ny223.out] at hr33
                   rw [← hy33] at hr33 hcut33
                   clear hy33 hi033 hsz33 HO_8
                   have HO225 := Aside0.mk hr33
                   clear hr33
                   replace q33 := eq_true q33
                   have q34 : (x44_3 : Int) ≤ ((t218.length : Int) : Int) := of_decide_eq_true (by first | (with_reducible assumption) | assumption)
                   obtain ⟨i034, hi034, _, hsz34, _⟩ := info_parts info3
                   have hcut34 := cut_to (P := Try.prog) 22 3 .i64 Try.underlying22 hi034 (some ad222) t218.length co18 x44_3 (of_decide_eq_true (by first | (with_reducible assumption) | assumption)) q34 (Kd.R_reads' HO_9.out).2.1
                   have hr34 := Kd.R_take (m := (x44_3 : Int).toNat) HO_9.out (by omega)
                   have hy34 : y226.length = (x44_3 : Int).toNat := (by rw [Ny226.out, List.length_take]; omega)
                   rw [← Ny226.out] at hr34
                   rw [← hy34] at hr34 hcut34
                   clear hy34 hi034 hsz34 HO_9
                   have HO228 := Aside0.mk hr34
                   clear hr34
                   replace q34 := eq_true q34
                   go_wp2
                   repeat (go_quiet (fail); try go_wp2)
                   go_meet
                   case rel => exact ⟨_, (y223), (y226), H', ⟨by have := HJ3.out; have := HK2.out; have := HK3.out; first | omega | exact Nat.le_refl _⟩, ⟨by (with_reducible repeat (first | apply Kd.R_alloc | apply Kd.R_drewN | apply Kd.R_drew)); exact HO225.out⟩, ⟨by (with_reducible repeat (first | apply Kd.R_alloc | apply Kd.R_drewN | apply Kd.R_drew)); exact HO228.out⟩, ⟨by repeat (first | (with_reducible first | exact HB.out | apply below_alloc | apply pw_below_drewN | apply below_drew1) | exact HB.out)⟩⟩
                  ·rw [if_neg c30] at H
                   exact absurd H (by simp)
                 ·rw [if_neg c29] at H
                  exact absurd H (by simp)
                ·rw [if_neg c28] at H
                 exact absurd H (by simp)
               ·rw [if_neg c26] at H
                have c26b0 : ((rd t215 x37_2) == (rd t218 x44_3)) = false := beq_eq_false_iff_ne.mpr c26
                have c26b1 : ((rd t215 x37_2) != (rd t218 x44_3)) = true := bne_iff_ne.mpr c26
                have H' := Aside0.mk H
                clear H
                have p222 : 0 ≤ (x44_3 : Int) := of_decide_eq_true (by first | (with_reducible assumption) | assumption)
                have q222 : x44_3 < (t218.length : Int) := of_decide_eq_true (by first | (with_reducible assumption) | assumption)
                obtain ⟨ad222, e222, hx222_0⟩ := Kd.at_int (Kd.R_reads' HO_9.out).2.2 x44_3 p222 q222
                cases e222
                replace p222 := eq_true p222
                replace q222 := eq_true q222
                go_wp2
                repeat (go_quiet (fail); try go_wp2)
                go_roundg k3
                case measure => have := HJ3.out; have := HK2.out; have := HK3.out; omega
                case rel => exact ⟨(wrap64 (x44_3 + 1)), rfl, rfl, (by first | rfl | (simp; done) | (simp [*]; done)), H', ⟨by have := HJ3.out; have := HK2.out; have := HK3.out; omega⟩, ⟨by (with_reducible repeat (first | apply Kd.R_alloc | apply Kd.R_drewN | apply Kd.R_drew)); exact HO_8.out⟩, ⟨by (with_reducible repeat (first | apply Kd.R_alloc | apply Kd.R_drewN | apply Kd.R_drew)); exact HO_9.out⟩, ⟨by repeat (first | (with_reducible first | exact HB.out | apply below_alloc | apply pw_below_drewN | apply below_drew1) | exact HB.out)⟩⟩
              ·rw [if_neg c25] at H
               exact absurd H (by simp)
             ·rw [if_neg c24] at H
              exact absurd H (by simp)
            ·rw [if_neg c23] at H
             have c23b0 : decide (x44_3 < (t218.length : Int)) = false := decide_eq_false c23
             clear c23
             have H' := Aside0.mk H
             clear H
             go_wp2
             repeat (go_quiet (fail); try go_wp2)
             go_roundg k3
             case measure => have := HJ3.out; have := HK2.out; have := HK3.out; omega
             case rel => exact ⟨(wrap64 (x37_2 + 1)), rfl, rfl, (by first | rfl | (simp; done) | (simp [*]; done)), H', ⟨by have := HJ3.out; have := HK2.out; have := HK3.out; omega⟩, ⟨by (with_reducible repeat (first | apply Kd.R_alloc | apply Kd.R_drewN | apply Kd.R_drew)); exact HO_8.out⟩, ⟨by (with_reducible repeat (first | apply Kd.R_alloc | apply Kd.R_drewN | apply Kd.R_drew)); exact HO_9.out⟩, ⟨by repeat (first | (with_reducible first | exact HB.out | apply below_alloc | apply pw_below_drewN | apply below_drew1) | exact HB.out)⟩⟩
         ·rw [if_neg c20] at H
          exact absurd H (by simp)
        ·rw [if_neg c19] at H
         exact absurd H (by simp)
       ·rw [if_neg c18] at H
        have c18b0 : decide (x37_2 < (t215.length : Int)) = false := decide_eq_false c18
        clear c18
        (first | rw [c18b0] | (simp only [i64_w, i32_w]; rw [c18b0]) | skip)
        have H' := Aside0.mk H
        clear H
        go_wp2
        repeat (go_quiet (fail); try go_wp2)
        go_meet
        case rel => exact ⟨_, (t215), (t218), H', ⟨by have := HJ3.out; have := HK2.out; first | omega | exact Nat.le_refl _⟩, ⟨by (with_reducible repeat (first | apply Kd.R_alloc | apply Kd.R_drewN | apply Kd.R_drew)); exact HO_8.out⟩, ⟨by (with_reducible repeat (first | apply Kd.R_alloc | apply Kd.R_drewN | apply Kd.R_drew)); exact HO_9.out⟩, ⟨by repeat (first | (with_reducible first | exact HB.out | apply below_alloc | apply pw_below_drewN | apply below_drew1) | exact HB.out)⟩⟩
    case rest =>
     clear HC14
     try clear c1
     try clear c2
     try clear p2
     try clear q2
     try clear hx2
     try clear c3
     try clear q3
     try clear c6
     try clear p6
     try clear c7
     try clear c7b0
     try clear c11
     try clear c18
     try clear c18b0
     try clear c19
     try clear c19b0
     try clear c20
     try clear c20b0
     try clear p22
     try clear q22
     try clear hx22
     try clear c23
     try clear c23b0
     try clear c24
     try clear c24b0
     try clear c25
     try clear c25b0
     try clear c26
     try clear c26b0
     try clear c26b1
     try clear c28
     try clear c28b0
     try clear c28b1
     try clear c29
     try clear c29b0
     try clear c29b1
     try clear c30
     try clear c30b0
     try clear c30b1
     try clear q33
     try clear q34
     try clear hx221_0
     try clear hx222_0
     try clear p2
     try clear p22
     try clear p221
     try clear p222
     try clear q2
     try clear q22
     try clear q221
     try clear q222
     try clear q33
     try clear q34
     obtain ⟨kq, x8_13, x9_13, HA, HJ13, HO_8, HO_9, HB⟩ := hcut
     cases kq with
     | zero => exact absurd HA.out (by simp [depend_Path.j3])
     | succ kj13 =>
      have H := HA.out
      clear HA
      simp only [depend_Path.j3] at H
      have HC36 := Aside0.mk H
      clear H
      go_upto_region 14 with (fail)
      repeat (go_quiet (fail); go_upto_region 14 with (fail))
      go_cut [81] (fun v81 wc => ∃ (kq : Nat) (x81_35 : Bool), v81 = .bool x81_35 ∧ Aside0 (depend_Path.j4 kq x8_13 x9_13 x81_35 = some (r1, r2)) ∧ Aside0 (kq ≤ kj13) ∧ Aside0 (Kd.R (Kd.int .i64) 3 wc w.heap.size (fun k_ => some k_ ≠ (u9 : Value).ownBlock) u8 x8_13) ∧ Aside0 (Kd.R (Kd.int .i64) 3 wc w.heap.size (fun k_ => some k_ ≠ (u8 : Value).ownBlock) u9 x9_13) ∧ Aside0 (Below w.heap.size w wc))
      case first =>
       have H := HC36.out
       clear HC36
       by_cases c37 : (x9_13.length : Int) > 0
       ·rw [if_pos c37] at H
        have c37b0 : decide (0 < (x9_13.length : Int)) = true := decide_eq_true c37
        have c37b1 : decide (0 < x9_13.length) = true := decide_eq_true (by omega)
        clear c37
        (first | rw [c37b0] | (simp only [i64_w, i32_w]; rw [c37b0]) | skip)
        obtain ⟨ji38, hji38⟩ : ∃ j_ : Int, (wrap64 ((x9_13.length : Int) - 1)) = j_ := ⟨_, rfl⟩
        replace H : (if 0 ≤ (ji38) then (if (ji38) < (x9_13.length : Int) then (if 0 ≤ (rd x9_13 (ji38)) then (if (rd x9_13 (ji38)) < (l0.length : Int) then (if 0 ≤ (wrap64 ((x8_13.length : Int) - 1)) then (if (wrap64 ((x8_13.length : Int) - 1)) < (x8_13.length : Int) then (depend_Path.j4 kj13 x8_13 x9_13 ((rd l0 (rd x9_13 (ji38))) != (rd x8_13 (wrap64 ((x8_13.length : Int) - 1))))) else (none)) else (none)) else (none)) else (none)) else (none)) else (none)) = some (r1, r2) := by first | (rw [hji38] at H; exact H) | (simp only [hji38] at H ⊢; exact H)
        have hji38w : (IntKind.i64.wrap ((x9_13.length : Int) - 1)) = ji38 := (i64_w _).trans hji38
        by_cases c39 : 0 ≤ (ji38)
        ·rw [if_pos c39] at H
         have c39b0 : decide (0 ≤ (ji38)) = true := decide_eq_true c39
         clear c39
         by_cases c40 : (ji38) < (x9_13.length : Int)
         ·rw [if_pos c40] at H
          have c40b0 : decide ((ji38) < (x9_13.length : Int)) = true := decide_eq_true c40
          clear c40
          by_cases c41 : 0 ≤ (rd x9_13 (ji38))
          ·rw [if_pos c41] at H
           have c41b0 : decide (0 ≤ (rd x9_13 (ji38))) = true := decide_eq_true c41
           clear c41
           by_cases c42 : (rd x9_13 (ji38)) < (l0.length : Int)
           ·rw [if_pos c42] at H
            have c42b0 : decide ((rd x9_13 (ji38)) < (l0.length : Int)) = true := decide_eq_true c42
            clear c42
            obtain ⟨ji43, hji43⟩ : ∃ j_ : Int, (wrap64 ((x8_13.length : Int) - 1)) = j_ := ⟨_, rfl⟩
            replace H : (if 0 ≤ (ji43) then (if (ji43) < (x8_13.length : Int) then (depend_Path.j4 kj13 x8_13 x9_13 ((rd l0 (rd x9_13 (ji38))) != (rd x8_13 (ji43)))) else (none)) else (none)) = some (r1, r2) := by first | (rw [hji43] at H; exact H) | (simp only [hji43] at H ⊢; exact H)
            have hji43w : (IntKind.i64.wrap ((x8_13.length : Int) - 1)) = ji43 := (i64_w _).trans hji43
            by_cases c44 : 0 ≤ (ji43)
            ·rw [if_pos c44] at H
             have c44b0 : decide (0 ≤ (ji43)) = true := decide_eq_true c44
             clear c44
             by_cases c45 : (ji43) < (x8_13.length : Int)
             ·rw [if_pos c45] at H
              have c45b0 : decide ((ji43) < (x8_13.length : Int)) = true := decide_eq_true c45
              clear c45
              have H' := Aside0.mk H
              clear H
              obtain ⟨Ao46, co46, eo46⟩ := Kd.R_slice HO_9.out
              subst eo46
              have p229 : 0 ≤ ((ji38) : Int) := of_decide_eq_true (by first | (with_reducible assumption) | assumption)
              have q229 : (ji38) < (x9_13.length : Int) := of_decide_eq_true (by first | (with_reducible assumption) | assumption)
              obtain ⟨ad229, e229, hx229_0⟩ := Kd.at_int (Kd.R_reads' HO_9.out).2.2 (ji38) p229 q229
              cases e229
              replace p229 := eq_true p229
              replace q229 := eq_true q229
              have p230 : 0 ≤ ((rd x9_13 (ji38)) : Int) := of_decide_eq_true (by first | (with_reducible assumption) | assumption)
              have q230 : (rd x9_13 (ji38)) < (l0.length : Int) := of_decide_eq_true (by first | (with_reducible assumption) | assumption)
              obtain ⟨ad230, e230, hx230_0⟩ := Kd.at_int HR0.out (rd x9_13 (ji38)) p230 q230
              cases e230
              replace hx230_0 := (HB.out.cell (World.block_lt_of_cell? w _ hx230_0)).trans hx230_0
              replace p230 := eq_true p230
              replace q230 := eq_true q230
              obtain ⟨Ao47, co47, eo47⟩ := Kd.R_slice HO_8.out
              subst eo47
              have p231 : 0 ≤ ((ji43) : Int) := of_decide_eq_true (by first | (with_reducible assumption) | assumption)
              have q231 : (ji43) < (x8_13.length : Int) := of_decide_eq_true (by first | (with_reducible assumption) | assumption)
              obtain ⟨ad231, e231, hx231_0⟩ := Kd.at_int (Kd.R_reads' HO_8.out).2.2 (ji43) p231 q231
              cases e231
              replace p231 := eq_true p231
              replace q231 := eq_true q231
              go_wp2
              repeat (go_quiet (fail); try go_wp2)
              go_meet
              case rel => exact ⟨_, (((rd l0 (rd x9_13 (ji38))) != (rd x8_13 (ji43)))), (by first | rfl | (simp; done) | (simp only [← hji38, ← hji43] <;> (first | rfl | simp)) | (simp [*]; done)), H', ⟨by have := HJ3.out; have := HJ13.out; first | omega | exact Nat.le_refl _⟩, ⟨by (with_reducible repeat (first | apply Kd.R_alloc | apply Kd.R_drewN | apply Kd.R_drew)); exact HO_8.out⟩, ⟨by (with_reducible repeat (first | apply Kd.R_alloc | apply Kd.R_drewN | apply Kd.R_drew)); exact HO_9.out⟩, ⟨by repeat (first | (with_reducible first | exact HB.out | apply below_alloc | apply pw_below_drewN | apply below_drew1) | exact HB.out)⟩⟩
             ·rw [if_neg c45] at H
              exact absurd H (by simp)
            ·rw [if_neg c44] at H
             exact absurd H (by simp)
           ·rw [if_neg c42] at H
            exact absurd H (by simp)
          ·rw [if_neg c41] at H
           exact absurd H (by simp)
         ·rw [if_neg c40] at H
          exact absurd H (by simp)
        ·rw [if_neg c39] at H
         exact absurd H (by simp)
       ·rw [if_neg c37] at H
        have c37b0 : decide (0 < (x9_13.length : Int)) = false := decide_eq_false c37
        have c37b1 : decide (0 < x9_13.length) = false := decide_eq_false (by omega)
        clear c37
        (first | rw [c37b0] | (simp only [i64_w, i32_w]; rw [c37b0]) | skip)
        have H' := Aside0.mk H
        clear H
        obtain ⟨Ao48, co48, eo48⟩ := Kd.R_slice HO_9.out
        subst eo48
        go_wp2
        repeat (go_quiet (fail); try go_wp2)
        go_meet
        case rel => exact ⟨_, (false), (by first | rfl | (simp; done) | (simp [*]; done)), H', ⟨by have := HJ3.out; have := HJ13.out; first | omega | exact Nat.le_refl _⟩, ⟨by (with_reducible repeat (first | apply Kd.R_alloc | apply Kd.R_drewN | apply Kd.R_drew)); exact HO_8.out⟩, ⟨by (with_reducible repeat (first | apply Kd.R_alloc | apply Kd.R_drewN | apply Kd.R_drew)); exact HO_9.out⟩, ⟨by repeat (first | (with_reducible first | exact HB.out | apply below_alloc | apply pw_below_drewN | apply below_drew1) | exact HB.out)⟩⟩
      case rest =>
       clear HC36
       try clear c1
       try clear c2
       try clear p2
       try clear q2
       try clear hx2
       try clear c3
       try clear q3
       try clear c4
       try clear c6
       try clear p6
       try clear c7
       try clear c7b0
       try clear c11
       try clear c18
       try clear c18b0
       try clear c19
       try clear c19b0
       try clear c20
       try clear c20b0
       try clear p22
       try clear q22
       try clear hx22
       try clear c23
       try clear c23b0
       try clear p23
       try clear q23
       try clear hx23
       try clear c24
       try clear c24b0
       try clear c25
       try clear c25b0
       try clear c26
       try clear c26b0
       try clear c26b1
       try clear c28
       try clear c28b0
       try clear c28b1
       try clear c29
       try clear c29b0
       try clear c29b1
       try clear c30
       try clear c30b0
       try clear c30b1
       try clear q33
       try clear q34
       try clear c37
       try clear c37b0
       try clear c37b1
       try clear c39
       try clear c39b0
       try clear c40
       try clear c40b0
       try clear c41
       try clear c41b0
       try clear c42
       try clear c42b0
       try clear c44
       try clear c44b0
       try clear c45
       try clear c45b0
       try clear hx221_0
       try clear hx222_0
       try clear hx229_0
       try clear hx230_0
       try clear hx231_0
       try clear p2
       try clear p22
       try clear p221
       try clear p222
       try clear p229
       try clear p230
       try clear p231
       try clear p6
       try clear q2
       try clear q22
       try clear q221
       try clear q222
       try clear q229
       try clear q230
       try clear q231
       try clear q3
       try clear q33
       try clear q34
       obtain ⟨kq, x81_35, rfl, HA, HJ35, HO_8, HO_9, HB⟩ := hcut
       cases kq with
       | zero => exact absurd HA.out (by simp [depend_Path.j4])
       | succ kj35 =>
        have H := HA.out
        clear HA
        simp only [depend_Path.j4] at H
        by_cases c49 : x81_35 = true
        ·subst c49
         have H1 : (some (([] : List Int), 11)) = some (r1, r2) := by rw [if_pos rfl] at H; exact H
         clear H
         have H := H1
         clear H1
         simp only [Option.some.injEq, Prod.mk.injEq] at H
         obtain ⟨rfl, rfl⟩ := H
         go_wp2
         repeat (go_quiet (fail); try go_wp2)
         (try simp only [Exit.inBlock, Exit.then, Exit.noGoto_ret])
         go_ret2
         exact ⟨_, by first | rfl | (simp [errW_none, errW_some] <;> rfl) | (simp [*, errW_none, errW_some] <;> rfl), by first | exact Kd.R_nil _ _ _ _ _ | exact Kd.N_nil _ _ _ _ _ | exact Kd.V_nil _ _ _ _ _ | exact Kd.Q_nil _ _ _ _ _ | exact Kd.S_nil _ _ _ _ _, by repeat (first | (with_reducible first | exact HB.out | apply below_alloc | apply pw_below_drewN | apply below_drew1) | exact HB.out)⟩
        ·replace c49 := Bool.eq_false_iff.mpr c49
         subst c49
         have H1 : (depend_Path.l2 kj35 x8_13 x9_13 (wrap64 ((x9_13.length : Int) - 1))) = some (r1, r2) := by rw [if_neg (show ¬ (false = true) by decide)] at H; exact H
         clear H
         have H := H1
         clear H1
         have H' := Aside0.mk H
         clear H
         obtain ⟨Ao50, co50, eo50⟩ := Kd.R_slice HO_9.out
         subst eo50
         go_wp2
         repeat (go_quiet (fail); try go_wp2)
         go_loopg [8, 14] kj35 (fun kq v8 v14 w' => ∃ (x8_4 : List Int) (x14_4 : Int), v14 = .int .i64 x14_4 ∧ Aside0 (depend_Path.l2 kq x8_4 x9_13 x14_4 = some (r1, r2)) ∧ Aside0 (kq ≤ kj35) ∧ Aside0 (Kd.R (Kd.int .i64) 3 w' w.heap.size (fun k_ => some k_ ≠ ((.slice Ao50 x9_13.length co50) : Value).ownBlock) v8 x8_4) ∧ Aside0 (Kd.R (Kd.int .i64) 3 w' w.heap.size (fun k_ => some k_ ≠ (v8 : Value).ownBlock) (.slice Ao50 x9_13.length co50) x9_13) ∧ Aside0 (Below w.heap.size w w'))
         case atStart => exact ⟨(x8_13), (wrap64 ((x9_13.length : Int) - 1)), (by first | rfl | (simp; done) | (simp [*]; done)), H', ⟨Nat.le_refl _⟩, ⟨by (with_reducible repeat (first | apply Kd.R_alloc | apply Kd.R_drewN | apply Kd.R_drew)); exact HO_8.out⟩, ⟨by (with_reducible repeat (first | apply Kd.R_alloc | apply Kd.R_drewN | apply Kd.R_drew)); exact HO_9.out⟩, ⟨by repeat (first | (with_reducible first | exact HB.out | apply below_alloc | apply pw_below_drewN | apply below_drew1) | exact HB.out)⟩⟩
         case round =>
          clear H'
          try clear c1
          try clear c2
          try clear p2
          try clear q2
          try clear hx2
          try clear c3
          try clear q3
          try clear c4
          try clear c6
          try clear p6
          try clear c7
          try clear c7b0
          try clear c11
          try clear c18
          try clear c18b0
          try clear c19
          try clear c19b0
          try clear c20
          try clear c20b0
          try clear p22
          try clear q22
          try clear hx22
          try clear c23
          try clear c23b0
          try clear p23
          try clear q23
          try clear hx23
          try clear c24
          try clear c24b0
          try clear c25
          try clear c25b0
          try clear c26
          try clear c26b0
          try clear c26b1
          try clear c28
          try clear c28b0
          try clear c28b1
          try clear c29
          try clear c29b0
          try clear c29b1
          try clear c30
          try clear c30b0
          try clear c30b1
          try clear q33
          try clear q34
          try clear c37
          try clear c37b0
          try clear c37b1
          try clear c39
          try clear c39b0
          try clear c40
          try clear c40b0
          try clear c41
          try clear c41b0
          try clear c42
          try clear c42b0
          try clear c44
          try clear c44b0
          try clear c45
          try clear c45b0
          try clear c49
          try clear hx221_0
          try clear hx222_0
          try clear hx229_0
          try clear hx230_0
          try clear hx231_0
          try clear p2
          try clear p22
          try clear p221
          try clear p222
          try clear p229
          try clear p23
          try clear p230
          try clear p231
          try clear p6
          try clear q2
          try clear q22
          try clear q221
          try clear q222
          try clear q229
          try clear q23
          try clear q230
          try clear q231
          try clear q3
          try clear q33
          try clear q34
          obtain ⟨x8_4, x14_4, rfl, HA, HK4, HO_8, HO_9, HB⟩ := hrel
          cases gk with
          | zero => exact absurd HA.out (by simp [depend_Path.l2])
          | succ k4 =>
           have H := HA.out
           clear HA
           simp only [depend_Path.l2] at H
           by_cases c51 : x14_4 ≥ 0
           ·rw [if_pos c51] at H
            have c51b0 : decide (0 ≤ x14_4) = true := decide_eq_true c51
            clear c51
            by_cases c52 : 0 ≤ x14_4
            ·rw [if_pos c52] at H
             have c52b0 : decide (0 ≤ x14_4) = true := decide_eq_true c52
             clear c52
             by_cases c53 : x14_4 < (x9_13.length : Int)
             ·rw [if_pos c53] at H
              have c53b0 : decide (x14_4 < (x9_13.length : Int)) = true := decide_eq_true c53
              clear c53
              by_cases c54 : x8_4.length < 17592186044416
              ·rw [if_pos c54] at H
               have LMc54 := Aside0.mk c54
               clear c54
               obtain ⟨y233, hy233⟩ : ∃ y_ : List Int, y_ = (x8_4 ++ [rd x9_13 x14_4]) := ⟨_, rfl⟩
               replace H : (depend_Path.l2 k4 y233 x9_13 (wrap64 (x14_4 - 1))) = some (r1, r2) := by first | (rw [hy233]; with_reducible exact H) | (have H2_ := (Option.bind_some _ _).symm.trans H; rw [hy233]; with_reducible exact H2_) | (have H2_ := (Option.bind_some _ _).symm.trans H; with_reducible exact H2_) | with_reducible exact H | (rw [hy233]; exact H) | exact H
               have Ny233 := Aside0.mk hy233
               clear hy233
               have H' := Aside0.mk H
               clear H
               have p232 : 0 ≤ (x14_4 : Int) := of_decide_eq_true (by first | (with_reducible assumption) | assumption)
               have q232 : x14_4 < (x9_13.length : Int) := of_decide_eq_true (by first | (with_reducible assumption) | assumption)
               obtain ⟨ad232, e232, hx232_0⟩ := Kd.at_int (Kd.R_reads' HO_9.out).2.2 x14_4 p232 q232
               cases e232
               replace p232 := eq_true p232
               replace q232 := eq_true q232
               go_wp2_with (first | ((with_reducible refine gate_builtin (b := .append) (xs := #[.tmp 89, .tmp 94]) rfl ?_); (try (refine gate_guard (by rfl) ?_; dsimp only)); at_builtin; refine Kd.R_append (Kd.int .i64) (w0 := w) w.heap.size rfl (.tmp 89) (.tmp 94) 22 3 (.int .i64 0) 8 rfl Try.underlying22 info3 rfl (by decide) (by omega) u8 x8_4 (rd x9_13 x14_4) [.int .i64 (rd x9_13 x14_4)] (fun k_ => some k_ ≠ (.slice (some ad232) x9_13.length co50 : Value).ownBlock) (fun _ => False) rfl rfl ?aP (fun _ hk => hk.elim) ?aF ?aO ?aB ?aS ?aL ?_; (case aP => exact rfl); (case aB => exact (by repeat (first | (with_reducible first | exact HB.out | apply below_alloc | apply pw_below_drewN | apply below_drew1) | exact HB.out))); (case aF => exact (fun k_ hk => Kd.fresh' (Kd.R_lt (by (with_reducible repeat (first | apply Kd.R_alloc | apply Kd.R_drewN | apply Kd.R_drew)); exact HO_9.out)) k_ hk)); (case aO => exact (by (with_reducible repeat (first | apply Kd.R_alloc | apply Kd.R_drewN | apply Kd.R_drew)); exact HO_8.out)); (case aS => exact (below_size (by repeat (first | (with_reducible first | exact HB.out | apply below_alloc | apply pw_below_drewN | apply below_drew1) | exact HB.out)))); (case aL => have := LMc54.out; omega); intro v234 w55 ho hb hg hat; rw [← Ny233.out] at ho; have n0_ := Aside0.mk (Kd.R_after (ok := (fun _ => True)) (by (with_reducible repeat (first | apply Kd.R_alloc | apply Kd.R_drewN | apply Kd.R_drew)); exact Kd.R_mono HO_9.out (fun _ hk => ⟨trivial, hk⟩)) hg hat); have n1_ := Aside0.mk (hb); have n2_ := Aside0.mk (ho); clear HO_9; clear HB; clear HO_8; have HO_9 := n0_; have HB := n1_; have HO235 := n2_; clear n0_ n1_ n2_; clear ho hb hg hat))
               repeat (go_quiet (first | ((with_reducible refine gate_builtin (b := .append) (xs := #[.tmp 89, .tmp 94]) rfl ?_); (try (refine gate_guard (by rfl) ?_; dsimp only)); at_builtin; refine Kd.R_append (Kd.int .i64) (w0 := w) w.heap.size rfl (.tmp 89) (.tmp 94) 22 3 (.int .i64 0) 8 rfl Try.underlying22 info3 rfl (by decide) (by omega) u8 x8_4 (rd x9_13 x14_4) [.int .i64 (rd x9_13 x14_4)] (fun k_ => some k_ ≠ (.slice (some ad232) x9_13.length co50 : Value).ownBlock) (fun _ => False) rfl rfl ?aP (fun _ hk => hk.elim) ?aF ?aO ?aB ?aS ?aL ?_; (case aP => exact rfl); (case aB => exact (by repeat (first | (with_reducible first | exact HB.out | apply below_alloc | apply pw_below_drewN | apply below_drew1) | exact HB.out))); (case aF => exact (fun k_ hk => Kd.fresh' (Kd.R_lt (by (with_reducible repeat (first | apply Kd.R_alloc | apply Kd.R_drewN | apply Kd.R_drew)); exact HO_9.out)) k_ hk)); (case aO => exact (by (with_reducible repeat (first | apply Kd.R_alloc | apply Kd.R_drewN | apply Kd.R_drew)); exact HO_8.out)); (case aS => exact (below_size (by repeat (first | (with_reducible first | exact HB.out | apply below_alloc | apply pw_below_drewN | apply below_drew1) | exact HB.out)))); (case aL => have := LMc54.out; omega); intro v234 w55 ho hb hg hat; rw [← Ny233.out] at ho; have n0_ := Aside0.mk (Kd.R_after (ok := (fun _ => True)) (by (with_reducible repeat (first | apply Kd.R_alloc | apply Kd.R_drewN | apply Kd.R_drew)); exact Kd.R_mono HO_9.out (fun _ hk => ⟨trivial, hk⟩)) hg hat); have n1_ := Aside0.mk (hb); have n2_ := Aside0.mk (ho); clear HO_9; clear HB; clear HO_8; have HO_9 := n0_; have HB := n1_; have HO235 := n2_; clear n0_ n1_ n2_; clear ho hb hg hat)); try go_wp2_with (first | ((with_reducible refine gate_builtin (b := .append) (xs := #[.tmp 89, .tmp 94]) rfl ?_); (try (refine gate_guard (by rfl) ?_; dsimp only)); at_builtin; refine Kd.R_append (Kd.int .i64) (w0 := w) w.heap.size rfl (.tmp 89) (.tmp 94) 22 3 (.int .i64 0) 8 rfl Try.underlying22 info3 rfl (by decide) (by omega) u8 x8_4 (rd x9_13 x14_4) [.int .i64 (rd x9_13 x14_4)] (fun k_ => some k_ ≠ (.slice (some ad232) x9_13.length co50 : Value).ownBlock) (fun _ => False) rfl rfl ?aP (fun _ hk => hk.elim) ?aF ?aO ?aB ?aS ?aL ?_; (case aP => exact rfl); (case aB => exact (by repeat (first | (with_reducible first | exact HB.out | apply below_alloc | apply pw_below_drewN | apply below_drew1) | exact HB.out))); (case aF => exact (fun k_ hk => Kd.fresh' (Kd.R_lt (by (with_reducible repeat (first | apply Kd.R_alloc | apply Kd.R_drewN | apply Kd.R_drew)); exact HO_9.out)) k_ hk)); (case aO => exact (by (with_reducible repeat (first | apply Kd.R_alloc | apply Kd.R_drewN | apply Kd.R_drew)); exact HO_8.out)); (case aS => exact (below_size (by repeat (first | (with_reducible first | exact HB.out | apply below_alloc | apply pw_below_drewN | apply below_drew1) | exact HB.out)))); (case aL => have := LMc54.out; omega); intro v234 w55 ho hb hg hat; rw [← Ny233.out] at ho; have n0_ := Aside0.mk (Kd.R_after (ok := (fun _ => True)) (by (with_reducible repeat (first | apply Kd.R_alloc | apply Kd.R_drewN | apply Kd.R_drew)); exact Kd.R_mono HO_9.out (fun _ hk => ⟨trivial, hk⟩)) hg hat); have n1_ := Aside0.mk (hb); have n2_ := Aside0.mk (ho); clear HO_9; clear HB; clear HO_8; have HO_9 := n0_; have HB := n1_; have HO235 := n2_; clear n0_ n1_ n2_; clear ho hb hg hat)))
               go_roundg k4
               case measure => have := HJ3.out; have := HJ13.out; have := HJ35.out; have := HK4.out; omega
               case rel => exact ⟨(y233), (wrap64 (x14_4 - 1)), (by first | rfl | (simp; done) | (simp [*]; done)), H', ⟨by have := HJ3.out; have := HJ13.out; have := HJ35.out; have := HK4.out; omega⟩, ⟨by (with_reducible repeat (first | apply Kd.R_alloc | apply Kd.R_drewN | apply Kd.R_drew)); exact HO235.out⟩, ⟨by (with_reducible repeat (first | apply Kd.R_alloc | apply Kd.R_drewN | apply Kd.R_drew)); exact Kd.R_mono HO_9.out (fun _ hk => hk.2)⟩, ⟨by repeat (first | (with_reducible first | exact HB.out | apply below_alloc | apply pw_below_drewN | apply below_drew1) | exact HB.out)⟩⟩
              ·rw [if_neg c54] at H
               exact absurd H (by simp)
             ·rw [if_neg c53] at H
              exact absurd H (by simp)
            ·rw [if_neg c52] at H
             exact absurd H (by simp)
           ·rw [if_neg c51] at H
            have c51b0 : decide (0 ≤ x14_4) = false := decide_eq_false c51
            clear c51
            simp only [Option.some.injEq, Prod.mk.injEq] at H
            obtain ⟨rfl, rfl⟩ := H
            go_wp2
            repeat (go_quiet (fail); try go_wp2)
            (try simp only [Exit.inBlock, Exit.then, Exit.noGoto_ret])
            go_ret2
            exact ⟨_, by first | rfl | (simp [errW_none, errW_some] <;> rfl) | (simp [*, errW_none, errW_some] <;> rfl), by (with_reducible repeat (first | apply Kd.R_alloc | apply Kd.R_drewN | apply Kd.R_drew)); exact Kd.R_mono HO_8.out (fun _ hk => trivial), by repeat (first | (with_reducible first | exact HB.out | apply below_alloc | apply pw_below_drewN | apply below_drew1) | exact HB.out)⟩

end Go.Proofs.Ythjcmodhleoocaa.Q
/- FDependDepth -/
namespace Go.Proofs.Ythjcmodhleoocaa.Q
open Go.RowKit Go.Proofs.YthjcmodhleoocaaW.PrintWords Go.Proofs.YthjcmodhleoocaaW.PrintLast Go.Proofs.YthjcmodhleoocaaW.PrintMore
attribute [local go_sem] max2_int min2_int max_two min_two max_three min_three max_four min_four   -- for this text's walks alone
set_option linter.unusedVariables false
set_option linter.unusedSimpArgs false

/-! ### depend_Depth: function 30 -/
def depend_Depth.f (k : Nat) (l0 : List Int) (a1 : Int) : Option (Int) := (depend_usable.f k l0 a1).bind fun t236 => (if t236 = true then ((depend_way.f k l0 a1).bind fun t237 => (some (wrap64 ((t237.length : Int) - 1)))) else (some (-1)))
theorem depend_Depth.mono : ∀ a0 a1 k, LeO (depend_Depth.f k a0 a1) (depend_Depth.f (k + 1) a0 a1) := by
 intro a0 a1 k
 unfold depend_Depth.f
 repeat' first
   | (with_reducible exact depend_usable.mono _ _ _)
   | (with_reducible exact depend_way.mono _ _ _)
   | (with_reducible exact LeO.refl _)
   | (with_reducible exact LeO.none _)
   | (with_reducible refine LeO.ite ?_ ?_)
   | (with_reducible refine LeO.bind ?_ (fun _ => ?_))
   | exact depend_usable.mono _ _ _
   | exact depend_way.mono _ _ _
   | exact LeO.none _
   | refine LeO.ite ?_ ?_
   | refine LeO.bind ?_ (fun _ => ?_)
set_option maxHeartbeats 8000000 in
set_option maxRecDepth 100000 in
theorem depend_Depth.calls (k : Nat) (A0 : Option Addr) (c0 : Nat) (l0 : List Int) (a1 : Int) (r : Int) (w : World) (hr0 : Kd.C (Kd.int .i64) w A0 l0.length l0) (hc0 : l0.length ≤ c0) (h : depend_Depth.f k l0 a1 = some r) :
  Calls Try.prog 30 #[.slice A0 l0.length c0, .int .i64 a1] w fun e w' => e = .returned (.int .i64 r) ∧ Below w.heap.size w w' := by
 have HR0 := Aside0.mk hr0
 have HC0 := Aside0.mk hc0
 clear hr0 hc0
 have HB := Aside0.mk (Below.refl w.heap.size w)
 have H : ((depend_usable.f k l0 a1).bind fun t236 => (if t236 = true then ((depend_way.f k l0 a1).bind fun t237 => (some (wrap64 ((t237.length : Int) - 1)))) else (some (-1)))) = some r := h
 clear h
 replace H := Option.bind_eq_some_iff.mp H
 obtain ⟨t236, A30, H⟩ := H
 replace H : (if t236 = true then ((depend_way.f k l0 a1).bind fun t237 => (some (wrap64 ((t237.length : Int) - 1)))) else (some (-1))) = some r := H
 have A3 := Aside0.mk A30
 clear A30
 by_cases c4 : t236 = true
 ·subst c4
  have H1 : ((depend_way.f k l0 a1).bind fun t237 => (some (wrap64 ((t237.length : Int) - 1)))) = some r := by rw [if_pos rfl] at H; exact H
  clear H
  have H := H1
  clear H1
  replace H := Option.bind_eq_some_iff.mp H
  obtain ⟨t237, A50, H⟩ := H
  replace H : (some (wrap64 ((t237.length : Int) - 1))) = some r := H
  have A5 := Aside0.mk A50
  clear A50
  obtain rfl := Option.some.inj H
  go_enter Try.func30, Try.ntmps30
  go_wp2_with (first | ((with_reducible refine gate_callee (f := 37) rfl ?_); refine goesL_ (some 7) rfl rfl Try.func37 (by kernel_rfl) rfl #[.slice A0 l0.length c0, .int .i64 a1] rfl (by (try simp only [List.map_toArray, List.map_cons, List.map_nil]); first | done | rfl | (simp only [List.length_drop, List.length_take]; rfl)) ?_; (with_reducible refine (depend_usable.calls k _ _ l0 a1 true _ ?side1 ?side2 A3.out).mono ?_); (case side1 => repeat (first | exact HR0.out | (with_reducible refine Kd.C_alloc ?_ _) | (with_reducible refine Kd.C_drewN ?_ _) | (with_reducible refine Kd.C_drew ?_))); (case side2 => exact HC0.out); rintro e w6 ⟨rfl, hb⟩; refine ⟨_, rfl, ?_⟩; have n0_ := Aside0.mk (below_step (by repeat (first | (with_reducible first | exact HB.out | apply below_alloc | apply pw_below_drewN | apply below_drew1) | exact HB.out)) hb); clear HB; have HB := n0_; clear n0_; (try clear hb); (try clear hb2); (try clear hk); (try clear hi)) | ((with_reducible refine gate_callee (f := 38) rfl ?_); refine goesL_ (some 11) rfl rfl Try.func38 (by kernel_rfl) rfl #[.slice A0 l0.length c0, .int .i64 a1] rfl (by (try simp only [List.map_toArray, List.map_cons, List.map_nil]); first | done | rfl | (simp only [List.length_drop, List.length_take]; rfl)) ?_; (with_reducible refine (depend_way.calls k _ _ l0 a1 t237 _ ?side1 ?side2 A5.out).mono ?_); (case side1 => repeat (first | exact (Kd.C_below HR0.out HB.out) | (with_reducible refine Kd.C_alloc ?_ _) | (with_reducible refine Kd.C_drewN ?_ _) | (with_reducible refine Kd.C_drew ?_))); (case side2 => exact HC0.out); rintro e w7 ⟨v238, rfl, ho0, hb⟩; refine ⟨_, rfl, ?_⟩; have n0_ := Aside0.mk (Kd.R_lower ho0 (below_size (by repeat (first | (with_reducible first | exact HB.out | apply below_alloc | apply pw_below_drewN | apply below_drew1) | exact HB.out)))); have n1_ := Aside0.mk (below_step (by repeat (first | (with_reducible first | exact HB.out | apply below_alloc | apply pw_below_drewN | apply below_drew1) | exact HB.out)) hb); clear HB; have HO239 := n0_; have HB := n1_; clear n0_ n1_; (try clear hb); (try clear hb2); (try clear hk); (try clear hi); (try clear ho0); obtain ⟨Ao8, co8, eo8⟩ := Kd.R_slice HO239.out; subst eo8))
  go_ret
  exact ⟨by first | rfl | (simp [errW_none, errW_some] <;> rfl) | (simp [*, errW_none, errW_some] <;> rfl), by repeat (first | (with_reducible first | exact HB.out | apply below_alloc | apply pw_below_drewN | apply below_drew1) | exact HB.out)⟩
 ·replace c4 := Bool.eq_false_iff.mpr c4
  subst c4
  have H1 : (some (-1)) = some r := by rw [if_neg (show ¬ (false = true) by decide)] at H; exact H
  clear H
  have H := H1
  clear H1
  obtain rfl := Option.some.inj H
  go_enter Try.func30, Try.ntmps30
  go_wp2_with (first | ((with_reducible refine gate_callee (f := 37) rfl ?_); refine goesL_ (some 7) rfl rfl Try.func37 (by kernel_rfl) rfl #[.slice A0 l0.length c0, .int .i64 a1] rfl (by (try simp only [List.map_toArray, List.map_cons, List.map_nil]); first | done | rfl | (simp only [List.length_drop, List.length_take]; rfl)) ?_; (with_reducible refine (depend_usable.calls k _ _ l0 a1 false _ ?side1 ?side2 A3.out).mono ?_); (case side1 => repeat (first | exact HR0.out | (with_reducible refine Kd.C_alloc ?_ _) | (with_reducible refine Kd.C_drewN ?_ _) | (with_reducible refine Kd.C_drew ?_))); (case side2 => exact HC0.out); rintro e w9 ⟨rfl, hb⟩; refine ⟨_, rfl, ?_⟩; have n0_ := Aside0.mk (below_step (by repeat (first | (with_reducible first | exact HB.out | apply below_alloc | apply pw_below_drewN | apply below_drew1) | exact HB.out)) hb); clear HB; have HB := n0_; clear n0_; (try clear hb); (try clear hb2); (try clear hk); (try clear hi)))
  go_ret
  exact ⟨by first | rfl | (simp [errW_none, errW_some] <;> rfl) | (simp [*, errW_none, errW_some] <;> rfl), by repeat (first | (with_reducible first | exact HB.out | apply below_alloc | apply pw_below_drewN | apply below_drew1) | exact HB.out)⟩

end Go.Proofs.Ythjcmodhleoocaa.Q
/- FCorporalaw10TreelabelHeads -/
namespace Go.Proofs.Ythjcmodhleoocaa.Q
open Go.RowKit Go.Proofs.YthjcmodhleoocaaW.PrintWords Go.Proofs.YthjcmodhleoocaaW.PrintLast Go.Proofs.YthjcmodhleoocaaW.PrintMore
attribute [local go_sem] max2_int min2_int max_two min_two max_three min_three max_four min_four   -- for this text's walks alone
set_option linter.unusedVariables false
set_option linter.unusedSimpArgs false

/-! ### corporalaw10_TreelabelHeads: function 10 -/
mutual
def corporalaw10_TreelabelHeads.j0 : Nat → List Int → Int → Int → Int → Bool → Option (Bool)
 | 0, _, _, _, _, _ => none
 | k + 1, x0, x1, x2, x7, x37 => if x37 = true then (some true) else ((treelabel_Assign.f k x0).bind fun bt240 => ((depend_Check.f k x0).bind fun bt245 => (if bt240.2.1 = bt245.1 then (corporalaw10_TreelabelHeads.j1 k x0 x1 x2 x7 bt240.1 bt240.2.2 (bt240.2.2 != bt245.2)) else (corporalaw10_TreelabelHeads.j1 k x0 x1 x2 x7 bt240.1 bt240.2.2 true))))
def corporalaw10_TreelabelHeads.j1 : Nat → List Int → Int → Int → Int → List (S41) → Int → Bool → Option (Bool)
 | 0, _, _, _, _, _, _, _ => none
 | k + 1, x0, x1, x2, x7, x8, x10, x56 => if x56 = true then (some false) else (if x10 = 0 then ((depend_Path.f k x0 x1 x2).bind fun bt248 => ((treelabel_Common.f k x8 x1 x2).bind fun t252 => (if (x8.length : Int) = x7 then (if 0 ≤ x1 then (if x1 < (x8.length : Int) then ((depend_Depth.f k x0 x1).bind fun t254 => (if ((rd_T41 x8 x1).f2) = t254 then (if ((decide (t252 ≥ 0)) != (bt248.2 == 0)) = true then (corporalaw10_TreelabelHeads.j2 k x1 x2 x8 bt248.1 t252 true) else (corporalaw10_TreelabelHeads.j2 k x1 x2 x8 bt248.1 t252 (decide (t252 ≥ x7)))) else (corporalaw10_TreelabelHeads.j2 k x1 x2 x8 bt248.1 t252 true))) else (none)) else (none)) else (corporalaw10_TreelabelHeads.j2 k x1 x2 x8 bt248.1 t252 true)))) else ((corporalaw10_awake.f k).bind fun t247 => (some t247)))
def corporalaw10_TreelabelHeads.j2 : Nat → Int → Int → List (S41) → List Int → Int → Bool → Option (Bool)
 | 0, _, _, _, _, _, _ => none
 | k + 1, x1, x2, x8, x13, x15, x97 => if x97 = true then (some false) else (if x15 < 0 then (if (x13.length : Int) = 0 then ((corporalaw10_awake.f k).bind fun t255 => (some t255)) else (some false)) else (if 0 ≤ x1 then (if x1 < (x8.length : Int) then (if 0 ≤ x2 then (if x2 < (x8.length : Int) then (if 0 ≤ x15 then (if x15 < (x8.length : Int) then (if (x13.length : Int) = (wrap64 ((wrap64 ((wrap64 (((rd_T41 x8 x1).f2) + ((rd_T41 x8 x2).f2))) - (wrap64 (2 * ((rd_T41 x8 x15).f2))))) + 1)) then ((corporalaw10_awake.f k).bind fun t259 => (some t259)) else (some false)) else (none)) else (none)) else (none)) else (none)) else (none)) else (none)))
end
def corporalaw10_TreelabelHeads.f (k : Nat) (l0 : List Int) (a1 : Int) (a2 : Int) : Option (Bool) := if (l0.length : Int) > 40 then (corporalaw10_TreelabelHeads.j0 k l0 a1 a2 (l0.length : Int) true) else (if a1 < 0 then (corporalaw10_TreelabelHeads.j0 k l0 a1 a2 (l0.length : Int) true) else (if a1 ≥ (l0.length : Int) then (corporalaw10_TreelabelHeads.j0 k l0 a1 a2 (l0.length : Int) true) else (if a2 < 0 then (corporalaw10_TreelabelHeads.j0 k l0 a1 a2 (l0.length : Int) true) else (corporalaw10_TreelabelHeads.j0 k l0 a1 a2 (l0.length : Int) (decide (a2 ≥ (l0.length : Int)))))))
theorem corporalaw10_TreelabelHeads.mono_l : ∀ k, (∀ y0 y1 y2 y3 y4, LeO (corporalaw10_TreelabelHeads.j0 k y0 y1 y2 y3 y4) (corporalaw10_TreelabelHeads.j0 (k + 1) y0 y1 y2 y3 y4)) ∧ (∀ y0 y1 y2 y3 y4 y5 y6, LeO (corporalaw10_TreelabelHeads.j1 k y0 y1 y2 y3 y4 y5 y6) (corporalaw10_TreelabelHeads.j1 (k + 1) y0 y1 y2 y3 y4 y5 y6)) ∧ (∀ y0 y1 y2 y3 y4 y5, LeO (corporalaw10_TreelabelHeads.j2 k y0 y1 y2 y3 y4 y5) (corporalaw10_TreelabelHeads.j2 (k + 1) y0 y1 y2 y3 y4 y5))
 | 0 => ⟨fun _ _ _ _ _ r h => by simp [corporalaw10_TreelabelHeads.j0] at h, fun _ _ _ _ _ _ _ r h => by simp [corporalaw10_TreelabelHeads.j1] at h, fun _ _ _ _ _ _ r h => by simp [corporalaw10_TreelabelHeads.j2] at h⟩
 | k + 1 => by
  obtain ⟨ih0, ih1, ih2⟩ := corporalaw10_TreelabelHeads.mono_l k
  refine ⟨?_, ?_, ?_⟩
  ·intro y0 y1 y2 y3 y4
   unfold corporalaw10_TreelabelHeads.j0
   repeat' first
   | (with_reducible exact ih0 _ _ _ _ _)
   | (with_reducible exact ih1 _ _ _ _ _ _ _)
   | (with_reducible exact ih2 _ _ _ _ _ _)
   | (with_reducible exact corporalaw10_awake.mono _)
   | (with_reducible exact depend_Check.mono _ _)
   | (with_reducible exact depend_Depth.mono _ _ _)
   | (with_reducible exact depend_Path.mono _ _ _ _)
   | (with_reducible exact treelabel_Assign.mono _ _)
   | (with_reducible exact treelabel_Common.mono _ _ _ _)
   | (with_reducible exact LeO.refl _)
   | (with_reducible exact LeO.none _)
   | (with_reducible refine LeO.ite ?_ ?_)
   | (with_reducible refine LeO.bind ?_ (fun _ => ?_))
   | exact ih0 _ _ _ _ _
   | exact ih1 _ _ _ _ _ _ _
   | exact ih2 _ _ _ _ _ _
   | exact corporalaw10_awake.mono _
   | exact depend_Check.mono _ _
   | exact depend_Depth.mono _ _ _
   | exact depend_Path.mono _ _ _ _
   | exact treelabel_Assign.mono _ _
   | exact treelabel_Common.mono _ _ _ _
   | exact LeO.none _
   | refine LeO.ite ?_ ?_
   | refine LeO.bind ?_ (fun _ => ?_)
  ·intro y0 y1 y2 y3 y4 y5 y6
   unfold corporalaw10_TreelabelHeads.j1
   repeat' first
   | (with_reducible exact ih0 _ _ _ _ _)
   | (with_reducible exact ih1 _ _ _ _ _ _ _)
   | (with_reducible exact ih2 _ _ _ _ _ _)
   | (with_reducible exact corporalaw10_awake.mono _)
   | (with_reducible exact depend_Check.mono _ _)
   | (with_reducible exact depend_Depth.mono _ _ _)
   | (with_reducible exact depend_Path.mono _ _ _ _)
   | (with_reducible exact treelabel_Assign.mono _ _)
   | (with_reducible exact treelabel_Common.mono _ _ _ _)
   | (with_reducible exact LeO.refl _)
   | (with_reducible exact LeO.none _)
   | (with_reducible refine LeO.ite ?_ ?_)
   | (with_reducible refine LeO.bind ?_ (fun _ => ?_))
   | exact ih0 _ _ _ _ _
   | exact ih1 _ _ _ _ _ _ _
   | exact ih2 _ _ _ _ _ _
   | exact corporalaw10_awake.mono _
   | exact depend_Check.mono _ _
   | exact depend_Depth.mono _ _ _
   | exact depend_Path.mono _ _ _ _
   | exact treelabel_Assign.mono _ _
   | exact treelabel_Common.mono _ _ _ _
   | exact LeO.none _
   | refine LeO.ite ?_ ?_
   | refine LeO.bind ?_ (fun _ => ?_)
  ·intro y0 y1 y2 y3 y4 y5
   unfold corporalaw10_TreelabelHeads.j2
   repeat' first
   | (with_reducible exact ih0 _ _ _ _ _)
   | (with_reducible exact ih1 _ _ _ _ _ _ _)
   | (with_reducible exact ih2 _ _ _ _ _ _)
   | (with_reducible exact corporalaw10_awake.mono _)
   | (with_reducible exact depend_Check.mono _ _)
   | (with_reducible exact depend_Depth.mono _ _ _)
   | (with_reducible exact depend_Path.mono _ _ _ _)
   | (with_reducible exact treelabel_Assign.mono _ _)
   | (with_reducible exact treelabel_Common.mono _ _ _ _)
   | (with_reducible exact LeO.refl _)
   | (with_reducible exact LeO.none _)
   | (with_reducible refine LeO.ite ?_ ?_)
   | (with_reducible refine LeO.bind ?_ (fun _ => ?_))
   | exact ih0 _ _ _ _ _
   | exact ih1 _ _ _ _ _ _ _
   | exact ih2 _ _ _ _ _ _
   | exact corporalaw10_awake.mono _
   | exact depend_Check.mono _ _
   | exact depend_Depth.mono _ _ _
   | exact depend_Path.mono _ _ _ _
   | exact treelabel_Assign.mono _ _
   | exact treelabel_Common.mono _ _ _ _
   | exact LeO.none _
   | refine LeO.ite ?_ ?_
   | refine LeO.bind ?_ (fun _ => ?_)
theorem corporalaw10_TreelabelHeads.mono : ∀ a0 a1 a2 k, LeO (corporalaw10_TreelabelHeads.f k a0 a1 a2) (corporalaw10_TreelabelHeads.f (k + 1) a0 a1 a2) := by
 intro a0 a1 a2 k
 obtain ⟨ih0, ih1, ih2⟩ := corporalaw10_TreelabelHeads.mono_l k
 unfold corporalaw10_TreelabelHeads.f
 repeat' first
   | (with_reducible exact ih0 _ _ _ _ _)
   | (with_reducible exact ih1 _ _ _ _ _ _ _)
   | (with_reducible exact ih2 _ _ _ _ _ _)
   | (with_reducible exact corporalaw10_awake.mono _)
   | (with_reducible exact depend_Check.mono _ _)
   | (with_reducible exact depend_Depth.mono _ _ _)
   | (with_reducible exact depend_Path.mono _ _ _ _)
   | (with_reducible exact treelabel_Assign.mono _ _)
   | (with_reducible exact treelabel_Common.mono _ _ _ _)
   | (with_reducible exact LeO.refl _)
   | (with_reducible exact LeO.none _)
   | (with_reducible refine LeO.ite ?_ ?_)
   | (with_reducible refine LeO.bind ?_ (fun _ => ?_))
   | exact ih0 _ _ _ _ _
   | exact ih1 _ _ _ _ _ _ _
   | exact ih2 _ _ _ _ _ _
   | exact corporalaw10_awake.mono _
   | exact depend_Check.mono _ _
   | exact depend_Depth.mono _ _ _
   | exact depend_Path.mono _ _ _ _
   | exact treelabel_Assign.mono _ _
   | exact treelabel_Common.mono _ _ _ _
   | exact LeO.none _
   | refine LeO.ite ?_ ?_
   | refine LeO.bind ?_ (fun _ => ?_)
def corporalaw10_TreelabelHeads.T12 : Bool × List (List Nat × List Nat) := (true, [([], []), ([0], [0]), ([], []), ([1, 2], [1, 2]), ([3], [3]), ([4], [4]), ([4], [4]), ([5, 6, 4], [4, 5, 6]), ([7, 4], [4, 7]), ([8, 4], [4, 8]), ([4], [4]), ([4], [4]), ([10, 11, 4, 4], [4, 10, 11]), ([9, 12, 4], [4, 9, 12]), ([4, 13], [4, 13]), ([14, 12], [14]), ([15], [15]), ([16, 15], [15, 16]), ([15], [15]), ([18, 15], [15, 18]), ([17, 19, 15], [15, 17, 19]), ([15, 20], [15, 20]), ([21, 15], [21]), ([22], [22]), ([22], [22]), ([23, 24, 22], [22, 23, 24]), ([22, 25], [22, 25])])
def corporalaw10_TreelabelHeads.B12 : List Nat := [0, 1, 0, 7, 15, 31, 31, 127, 255, 511, 31, 31, 3103, 8191, 16383, 32767, 65535, 131071, 65535, 327679, 1048575, 2097151, 4194303, 8388607, 8388607, 33554431, 67108863]
theorem corporalaw10_TreelabelHeads.tab12 : rtab .any (opsOf Try.f10 12) = corporalaw10_TreelabelHeads.T12 := by kernel_rfl
theorem corporalaw10_TreelabelHeads.bits12 : waitsOk corporalaw10_TreelabelHeads.T12.2 corporalaw10_TreelabelHeads.B12 = true := by kernel_rfl
def corporalaw10_TreelabelHeads.T16 : Bool × List (List Nat × List Nat) := (true, [([], []), ([0], [0]), ([], []), ([], []), ([2, 3], [2, 3]), ([4], [4]), ([5], [5]), ([], []), ([], []), ([7, 8], [7, 8]), ([9], [9]), ([10], [10]), ([6, 11], [6, 11]), ([], []), ([], []), ([13, 14], [13, 14]), ([15], [15]), ([16], [16]), ([17], [17]), ([12, 18], [12, 18]), ([19], [19]), ([1, 20], [1, 20]), ([21], [21]), ([22, 22], [22]), ([22, 23], [22, 23]), ([24, 23, 0, 1, 2, 3, 4, 5, 6, 7, 8, 9, 10, 11, 12, 13, 14, 15, 16, 17, 18, 19, 20, 21, 22, 23, 24], [24])])
def corporalaw10_TreelabelHeads.B16 : List Nat := [0, 1, 0, 0, 12, 28, 60, 0, 0, 384, 896, 1920, 4092, 0, 0, 24576, 57344, 122880, 253952, 524284, 1048572, 2097151, 4194303, 8388607, 16777215, 33554431]
theorem corporalaw10_TreelabelHeads.tab16 : rtab .any (opsOf Try.f10 16) = corporalaw10_TreelabelHeads.T16 := by kernel_rfl
theorem corporalaw10_TreelabelHeads.bits16 : waitsOk corporalaw10_TreelabelHeads.T16.2 corporalaw10_TreelabelHeads.B16 = true := by kernel_rfl
set_option maxHeartbeats 8000000 in
set_option maxRecDepth 100000 in
theorem corporalaw10_TreelabelHeads.calls (k : Nat) (A0 : Option Addr) (c0 : Nat) (l0 : List Int) (a1 : Int) (a2 : Int) (r : Bool) (w : World) (hr0 : Kd.C (Kd.int .i64) w A0 l0.length l0) (hc0 : l0.length ≤ c0) (h : corporalaw10_TreelabelHeads.f k l0 a1 a2 = some r) :
  Calls Try.prog 10 #[.slice A0 l0.length c0, .int .i64 a1, .int .i64 a2] w fun e w' => e = .returned (.bool r) ∧ Below w.heap.size w w' := by
 have HR0 := Aside0.mk hr0
 have HC0 := Aside0.mk hc0
 clear hr0 hc0
 have HB := Aside0.mk (Below.refl w.heap.size w)
 have H : (if (l0.length : Int) > 40 then (corporalaw10_TreelabelHeads.j0 k l0 a1 a2 (l0.length : Int) true) else (if a1 < 0 then (corporalaw10_TreelabelHeads.j0 k l0 a1 a2 (l0.length : Int) true) else (if a1 ≥ (l0.length : Int) then (corporalaw10_TreelabelHeads.j0 k l0 a1 a2 (l0.length : Int) true) else (if a2 < 0 then (corporalaw10_TreelabelHeads.j0 k l0 a1 a2 (l0.length : Int) true) else (corporalaw10_TreelabelHeads.j0 k l0 a1 a2 (l0.length : Int) (decide (a2 ≥ (l0.length : Int)))))))) = some r := h
 clear h
 have HC4 := Aside0.mk H
 clear H
 go_enter Try.func10, Try.ntmps10
 go_upto_region 2 with (fail)
 go_cut [37] (fun v37 wc => ∃ (kq : Nat) (x37_3 : Bool), v37 = .bool x37_3 ∧ Aside0 (corporalaw10_TreelabelHeads.j0 kq l0 a1 a2 (l0.length : Int) x37_3 = some r) ∧ Aside0 (kq ≤ k) ∧ Aside0 (Below w.heap.size w wc))
 case first =>
  have H := HC4.out
  clear HC4
  by_cases c5 : (l0.length : Int) > 40
  ·rw [if_pos c5] at H
   have c5b0 : decide (40 < (l0.length : Int)) = true := decide_eq_true c5
   have c5b1 : decide (40 < l0.length) = true := decide_eq_true (by omega)
   clear c5
   (first | rw [c5b0] | (simp only [i64_w, i32_w]; rw [c5b0]) | skip)
   have H' := Aside0.mk H
   clear H
   go_wp2
   go_meet
   case rel => exact ⟨_, (true), (by first | rfl | (simp; done) | (simp [*]; done)), H', ⟨by first | omega | exact Nat.le_refl _⟩, ⟨by repeat (first | (with_reducible first | exact HB.out | apply below_alloc | apply pw_below_drewN | apply below_drew1) | exact HB.out)⟩⟩
  ·rw [if_neg c5] at H
   have c5b0 : decide (40 < (l0.length : Int)) = false := decide_eq_false c5
   have c5b1 : decide (40 < l0.length) = false := decide_eq_false (by omega)
   clear c5
   (first | rw [c5b0] | (simp only [i64_w, i32_w]; rw [c5b0]) | skip)
   by_cases c6 : a1 < 0
   ·rw [if_pos c6] at H
    have c6b0 : decide (a1 < 0) = true := decide_eq_true c6
    clear c6
    have H' := Aside0.mk H
    clear H
    go_wp2
    go_meet
    case rel => exact ⟨_, (true), (by first | rfl | (simp; done) | (simp [*]; done)), H', ⟨by first | omega | exact Nat.le_refl _⟩, ⟨by repeat (first | (with_reducible first | exact HB.out | apply below_alloc | apply pw_below_drewN | apply below_drew1) | exact HB.out)⟩⟩
   ·rw [if_neg c6] at H
    have c6b0 : decide (a1 < 0) = false := decide_eq_false c6
    clear c6
    by_cases c7 : a1 ≥ (l0.length : Int)
    ·rw [if_pos c7] at H
     have c7b0 : decide ((l0.length : Int) ≤ a1) = true := decide_eq_true c7
     clear c7
     have H' := Aside0.mk H
     clear H
     go_wp2
     go_meet
     case rel => exact ⟨_, (true), (by first | rfl | (simp; done) | (simp [*]; done)), H', ⟨by first | omega | exact Nat.le_refl _⟩, ⟨by repeat (first | (with_reducible first | exact HB.out | apply below_alloc | apply pw_below_drewN | apply below_drew1) | exact HB.out)⟩⟩
    ·rw [if_neg c7] at H
     have c7b0 : decide ((l0.length : Int) ≤ a1) = false := decide_eq_false c7
     clear c7
     by_cases c8 : a2 < 0
     ·rw [if_pos c8] at H
      have c8b0 : decide (a2 < 0) = true := decide_eq_true c8
      clear c8
      have H' := Aside0.mk H
      clear H
      go_wp2
      go_meet
      case rel => exact ⟨_, (true), (by first | rfl | (simp; done) | (simp [*]; done)), H', ⟨by first | omega | exact Nat.le_refl _⟩, ⟨by repeat (first | (with_reducible first | exact HB.out | apply below_alloc | apply pw_below_drewN | apply below_drew1) | exact HB.out)⟩⟩
     ·rw [if_neg c8] at H
      have c8b0 : decide (a2 < 0) = false := decide_eq_false c8
      clear c8
      have H' := Aside0.mk H
      clear H
      go_wp2
      go_meet
      case rel => exact ⟨_, (decide (a2 ≥ (l0.length : Int))), (by first | rfl | (simp; done) | (simp [*]; done)), H', ⟨by first | omega | exact Nat.le_refl _⟩, ⟨by repeat (first | (with_reducible first | exact HB.out | apply below_alloc | apply pw_below_drewN | apply below_drew1) | exact HB.out)⟩⟩
 case rest =>
  clear HC4
  try clear c1
  try clear p2
  try clear c5
  try clear c5b0
  try clear c5b1
  try clear c6
  try clear c6b0
  try clear c7
  try clear c7b0
  try clear c8
  try clear c8b0
  obtain ⟨kq, x37_3, rfl, HA, HJ3, HB⟩ := hcut
  cases kq with
  | zero => exact absurd HA.out (by simp [corporalaw10_TreelabelHeads.j0])
  | succ kj3 =>
   have H := HA.out
   clear HA
   simp only [corporalaw10_TreelabelHeads.j0] at H
   by_cases c9 : x37_3 = true
   ·subst c9
    have H1 : (some true) = some r := by rw [if_pos rfl] at H; exact H
    clear H
    have H := H1
    clear H1
    obtain rfl := Option.some.inj H
    go_wp2
    go_ret
    exact ⟨by first | rfl | (simp [errW_none, errW_some] <;> rfl) | (simp [*, errW_none, errW_some] <;> rfl), by repeat (first | (with_reducible first | exact HB.out | apply below_alloc | apply pw_below_drewN | apply below_drew1) | exact HB.out)⟩
   ·replace c9 := Bool.eq_false_iff.mpr c9
    subst c9
    have H1 : ((treelabel_Assign.f kj3 l0).bind fun bt240 => ((depend_Check.f kj3 l0).bind fun bt245 => (if bt240.2.1 = bt245.1 then (corporalaw10_TreelabelHeads.j1 kj3 l0 a1 a2 (l0.length : Int) bt240.1 bt240.2.2 (bt240.2.2 != bt245.2)) else (corporalaw10_TreelabelHeads.j1 kj3 l0 a1 a2 (l0.length : Int) bt240.1 bt240.2.2 true)))) = some r := by rw [if_neg (show ¬ (false = true) by decide)] at H; exact H
    clear H
    have H := H1
    clear H1
    replace H := Option.bind_eq_some_iff.mp H
    obtain ⟨⟨t240, t241, t242⟩, A100, H⟩ := H
    replace H : ((depend_Check.f kj3 l0).bind fun bt245 => (if t241 = bt245.1 then (corporalaw10_TreelabelHeads.j1 kj3 l0 a1 a2 (l0.length : Int) t240 t242 (t242 != bt245.2)) else (corporalaw10_TreelabelHeads.j1 kj3 l0 a1 a2 (l0.length : Int) t240 t242 true))) = some r := H
    have A10 := Aside0.mk A100
    clear A100
    replace H := Option.bind_eq_some_iff.mp H
    obtain ⟨⟨t245, t246⟩, A110, H⟩ := H
    replace H : (if t241 = t245 then (corporalaw10_TreelabelHeads.j1 kj3 l0 a1 a2 (l0.length : Int) t240 t242 (t242 != t246)) else (corporalaw10_TreelabelHeads.j1 kj3 l0 a1 a2 (l0.length : Int) t240 t242 true)) = some r := H
    have A11 := Aside0.mk A110
    clear A110
    have HC12 := Aside0.mk H
    clear H
    go_upto_region 6 with (first | ((with_reducible refine gate_callee (f := 11) rfl ?_); refine goesL_ (some 40) rfl rfl Try.func11 (by kernel_rfl) rfl #[.slice A0 l0.length c0] rfl (by (try simp only [List.map_toArray, List.map_cons, List.map_nil]); first | done | rfl | (simp only [List.length_drop, List.length_take]; rfl)) ?_; (with_reducible refine (treelabel_Assign.calls kj3 _ _ l0 t240 t241 t242 _ ?side1 ?side2 A10.out).mono ?_); (case side1 => repeat (first | exact (Kd.C_below HR0.out HB.out) | (with_reducible refine Kd.C_alloc ?_ _) | (with_reducible refine Kd.C_drewN ?_ _) | (with_reducible refine Kd.C_drew ?_))); (case side2 => exact HC0.out); rintro e w13 ⟨v243, rfl, ho0, hb⟩; refine ⟨_, rfl, ?_⟩; have n0_ := Aside0.mk (Kd.R_lower ho0 (below_size (by repeat (first | (with_reducible first | exact HB.out | apply below_alloc | apply pw_below_drewN | apply below_drew1) | exact HB.out)))); have n1_ := Aside0.mk (below_step (by repeat (first | (with_reducible first | exact HB.out | apply below_alloc | apply pw_below_drewN | apply below_drew1) | exact HB.out)) hb); clear HB; have HO244 := n0_; have HB := n1_; clear n0_ n1_; (try clear hb); (try clear hb2); (try clear hk); (try clear hi); (try clear ho0)) | ((with_reducible refine gate_callee (f := 28) rfl ?_); refine goesL_ (some 46) rfl rfl Try.func28 (by kernel_rfl) rfl #[.slice A0 l0.length c0] rfl (by (try simp only [List.map_toArray, List.map_cons, List.map_nil]); first | done | rfl | (simp only [List.length_drop, List.length_take]; rfl)) ?_; (with_reducible refine (depend_Check.calls kj3 _ _ l0 t245 t246 _ ?side1 ?side2 A11.out).mono ?_); (case side1 => repeat (first | exact (Kd.C_below HR0.out HB.out) | (with_reducible refine Kd.C_alloc ?_ _) | (with_reducible refine Kd.C_drewN ?_ _) | (with_reducible refine Kd.C_drew ?_))); (case side2 => exact HC0.out); rintro e w14 ⟨rfl, hb⟩; refine ⟨_, rfl, ?_⟩; have n0_ := Aside0.mk (Kd.R_below (by (with_reducible repeat (first | apply Kd.R_alloc | apply Kd.R_drewN | apply Kd.R_drew)); exact HO244.out) hb); have n1_ := Aside0.mk (below_step (by repeat (first | (with_reducible first | exact HB.out | apply below_alloc | apply pw_below_drewN | apply below_drew1) | exact HB.out)) hb); clear HO244; clear HB; have HO244 := n0_; have HB := n1_; clear n0_ n1_; (try clear hb); (try clear hb2); (try clear hk); (try clear hi)))
    (try simp only [Act.put, List.setIfInBounds_toArray, List.set_cons_zero, List.set_cons_succ])
    go_cut [56] (fun v56 wc => ∃ (kq : Nat) (x56_11 : Bool), v56 = .bool x56_11 ∧ Aside0 (corporalaw10_TreelabelHeads.j1 kq l0 a1 a2 (l0.length : Int) t240 t242 x56_11 = some r) ∧ Aside0 (kq ≤ kj3) ∧ Aside0 (Kd.R k41 41 wc w.heap.size (fun _ => True) v243 t240) ∧ Aside0 (Below w.heap.size w wc))
    case first =>
     have H := HC12.out
     clear HC12
     by_cases c15 : t241 = t245
     ·rw [if_pos c15] at H
      have c15b0 : (t241 == t245) = true := beq_iff_eq.mpr c15
      have c15b1 : (t241 != t245) = false := bne_eq_false_iff_eq.mpr c15
      clear c15
      (first | rw [c15b0] | (simp only [i64_w, i32_w]; rw [c15b0]) | skip)
      have H' := Aside0.mk H
      clear H
      go_wp2
      go_meet
      case rel => exact ⟨_, ((t242 != t246)), (by first | rfl | (simp; done) | (simp [*]; done)), H', ⟨by have := HJ3.out; first | omega | exact Nat.le_refl _⟩, ⟨by (with_reducible repeat (first | apply Kd.R_alloc | apply Kd.R_drewN | apply Kd.R_drew)); exact HO244.out⟩, ⟨by repeat (first | (with_reducible first | exact HB.out | apply below_alloc | apply pw_below_drewN | apply below_drew1) | exact HB.out)⟩⟩
     ·rw [if_neg c15] at H
      have c15b0 : (t241 == t245) = false := beq_eq_false_iff_ne.mpr c15
      have c15b1 : (t241 != t245) = true := bne_iff_ne.mpr c15
      (first | rw [c15b0] | (simp only [i64_w, i32_w]; rw [c15b0]) | skip)
      have H' := Aside0.mk H
      clear H
      go_wp2
      go_meet
      case rel => exact ⟨_, (true), (by first | rfl | (simp; done) | (simp [*]; done)), H', ⟨by have := HJ3.out; first | omega | exact Nat.le_refl _⟩, ⟨by (with_reducible repeat (first | apply Kd.R_alloc | apply Kd.R_drewN | apply Kd.R_drew)); exact HO244.out⟩, ⟨by repeat (first | (with_reducible first | exact HB.out | apply below_alloc | apply pw_below_drewN | apply below_drew1) | exact HB.out)⟩⟩
    case rest =>
     clear HC12
     try clear c1
     try clear c2
     try clear p2
     try clear c5
     try clear c5b0
     try clear c5b1
     try clear c6
     try clear c6b0
     try clear c7
     try clear c7b0
     try clear c8
     try clear c8b0
     try clear c9
     try clear c10
     try clear c11
     try clear c15
     try clear c15b0
     try clear c15b1
     try clear p2
     obtain ⟨kq, x56_11, rfl, HA, HJ11, HO_8, HB⟩ := hcut
     cases kq with
     | zero => exact absurd HA.out (by simp [corporalaw10_TreelabelHeads.j1])
     | succ kj11 =>
      have H := HA.out
      clear HA
      simp only [corporalaw10_TreelabelHeads.j1] at H
      by_cases c16 : x56_11 = true
      ·subst c16
       have H1 : (some false) = some r := by rw [if_pos rfl] at H; exact H
       clear H
       have H := H1
       clear H1
       obtain rfl := Option.some.inj H
       go_wp2
       go_ret
       exact ⟨by first | rfl | (simp [errW_none, errW_some] <;> rfl) | (simp [*, errW_none, errW_some] <;> rfl), by repeat (first | (with_reducible first | exact HB.out | apply below_alloc | apply pw_below_drewN | apply below_drew1) | exact HB.out)⟩
      ·replace c16 := Bool.eq_false_iff.mpr c16
       subst c16
       have H1 : (if t242 = 0 then ((depend_Path.f kj11 l0 a1 a2).bind fun bt248 => ((treelabel_Common.f kj11 t240 a1 a2).bind fun t252 => (if (t240.length : Int) = (l0.length : Int) then (if 0 ≤ a1 then (if a1 < (t240.length : Int) then ((depend_Depth.f kj11 l0 a1).bind fun t254 => (if ((rd_T41 t240 a1).f2) = t254 then (if ((decide (t252 ≥ 0)) != (bt248.2 == 0)) = true then (corporalaw10_TreelabelHeads.j2 kj11 a1 a2 t240 bt248.1 t252 true) else (corporalaw10_TreelabelHeads.j2 kj11 a1 a2 t240 bt248.1 t252 (decide (t252 ≥ (l0.length : Int))))) else (corporalaw10_TreelabelHeads.j2 kj11 a1 a2 t240 bt248.1 t252 true))) else (none)) else (none)) else (corporalaw10_TreelabelHeads.j2 kj11 a1 a2 t240 bt248.1 t252 true)))) else ((corporalaw10_awake.f kj11).bind fun t247 => (some t247))) = some r := by rw [if_neg (show ¬ (false = true) by decide)] at H; exact H
       clear H
       have H := H1
       clear H1
       by_cases c17 : t242 = 0
       ·rw [if_pos c17] at H
        have c17b0 : (t242 == 0) = true := beq_iff_eq.mpr c17
        have c17b1 : (t242 != 0) = false := bne_eq_false_iff_eq.mpr c17
        clear c17
        replace H := Option.bind_eq_some_iff.mp H
        obtain ⟨⟨t248, t249⟩, A180, H⟩ := H
        replace H : ((treelabel_Common.f kj11 t240 a1 a2).bind fun t252 => (if (t240.length : Int) = (l0.length : Int) then (if 0 ≤ a1 then (if a1 < (t240.length : Int) then ((depend_Depth.f kj11 l0 a1).bind fun t254 => (if ((rd_T41 t240 a1).f2) = t254 then (if ((decide (t252 ≥ 0)) != (t249 == 0)) = true then (corporalaw10_TreelabelHeads.j2 kj11 a1 a2 t240 t248 t252 true) else (corporalaw10_TreelabelHeads.j2 kj11 a1 a2 t240 t248 t252 (decide (t252 ≥ (l0.length : Int))))) else (corporalaw10_TreelabelHeads.j2 kj11 a1 a2 t240 t248 t252 true))) else (none)) else (none)) else (corporalaw10_TreelabelHeads.j2 kj11 a1 a2 t240 t248 t252 true))) = some r := H
        have A18 := Aside0.mk A180
        clear A180
        replace H := Option.bind_eq_some_iff.mp H
        obtain ⟨t252, A190, H⟩ := H
        replace H : (if (t240.length : Int) = (l0.length : Int) then (if 0 ≤ a1 then (if a1 < (t240.length : Int) then ((depend_Depth.f kj11 l0 a1).bind fun t254 => (if ((rd_T41 t240 a1).f2) = t254 then (if ((decide (t252 ≥ 0)) != (t249 == 0)) = true then (corporalaw10_TreelabelHeads.j2 kj11 a1 a2 t240 t248 t252 true) else (corporalaw10_TreelabelHeads.j2 kj11 a1 a2 t240 t248 t252 (decide (t252 ≥ (l0.length : Int))))) else (corporalaw10_TreelabelHeads.j2 kj11 a1 a2 t240 t248 t252 true))) else (none)) else (none)) else (corporalaw10_TreelabelHeads.j2 kj11 a1 a2 t240 t248 t252 true)) = some r := H
        have A19 := Aside0.mk A190
        clear A190
        have HC20 := Aside0.mk H
        clear H
        go_upto_region 12 with (first | ((with_reducible refine gate_callee (f := 29) rfl ?_); refine goesL_ (some 64) rfl rfl Try.func29 (by kernel_rfl) rfl #[.slice A0 l0.length c0, .int .i64 a1, .int .i64 a2] rfl (by (try simp only [List.map_toArray, List.map_cons, List.map_nil]); first | done | rfl | (simp only [List.length_drop, List.length_take]; rfl)) ?_; (with_reducible refine (depend_Path.calls kj11 _ _ l0 a1 a2 t248 t249 _ ?side1 ?side2 A18.out).mono ?_); (case side1 => repeat (first | exact (Kd.C_below HR0.out HB.out) | (with_reducible refine Kd.C_alloc ?_ _) | (with_reducible refine Kd.C_drewN ?_ _) | (with_reducible refine Kd.C_drew ?_))); (case side2 => exact HC0.out); rintro e w21 ⟨v250, rfl, ho0, hb⟩; refine ⟨_, rfl, ?_⟩; have n0_ := Aside0.mk (Kd.R_below (by (with_reducible repeat (first | apply Kd.R_alloc | apply Kd.R_drewN | apply Kd.R_drew)); exact HO_8.out) hb); have n1_ := Aside0.mk (Kd.R_lower ho0 (below_size (by repeat (first | (with_reducible first | exact HB.out | apply below_alloc | apply pw_below_drewN | apply below_drew1) | exact HB.out)))); have n2_ := Aside0.mk (below_step (by repeat (first | (with_reducible first | exact HB.out | apply below_alloc | apply pw_below_drewN | apply below_drew1) | exact HB.out)) hb); clear HO_8; clear HB; have HO_8 := n0_; have HO251 := n1_; have HB := n2_; clear n0_ n1_ n2_; (try clear hb); (try clear hb2); (try clear hk); (try clear hi); (try clear ho0); obtain ⟨Ao22, co22, eo22⟩ := Kd.R_slice HO_8.out; subst eo22) | ((with_reducible refine gate_callee (f := 26) rfl ?_); refine goesL_ (some 70) rfl rfl Try.func26 (by kernel_rfl) rfl #[.slice Ao22 t240.length co22, .int .i64 a1, .int .i64 a2] rfl (by (try simp only [List.map_toArray, List.map_cons, List.map_nil]); first | done | rfl | (simp only [List.length_drop, List.length_take]; rfl)) ?_; (with_reducible refine (treelabel_Common.calls kj11 _ _ t240 a1 a2 t252 _ ?side1 ?side2 A19.out).mono ?_); (case side1 => repeat (first | exact (Kd.R_reads' HO_8.out).2.2 | (with_reducible refine Kd.C_alloc ?_ _) | (with_reducible refine Kd.C_drewN ?_ _) | (with_reducible refine Kd.C_drew ?_))); (case side2 => exact (Kd.R_reads' HO_8.out).2.1); rintro e w23 ⟨rfl, hb⟩; refine ⟨_, rfl, ?_⟩; have n0_ := Aside0.mk (Kd.R_below (by (with_reducible repeat (first | apply Kd.R_alloc | apply Kd.R_drewN | apply Kd.R_drew)); exact HO_8.out) hb); have n1_ := Aside0.mk (Kd.R_below (by (with_reducible repeat (first | apply Kd.R_alloc | apply Kd.R_drewN | apply Kd.R_drew)); exact HO251.out) hb); have n2_ := Aside0.mk (below_step (by repeat (first | (with_reducible first | exact HB.out | apply below_alloc | apply pw_below_drewN | apply below_drew1) | exact HB.out)) hb); clear HO_8; clear HO251; clear HB; have HO_8 := n0_; have HO251 := n1_; have HB := n2_; clear n0_ n1_ n2_; (try clear hb); (try clear hb2); (try clear hk); (try clear hi)))
        (try simp only [Act.put, List.setIfInBounds_toArray, List.set_cons_zero, List.set_cons_succ])
        go_cut [97] (fun v97 wc => ∃ (kq : Nat) (x97_19 : Bool), v97 = .bool x97_19 ∧ Aside0 (corporalaw10_TreelabelHeads.j2 kq a1 a2 t240 t248 t252 x97_19 = some r) ∧ Aside0 (kq ≤ kj11) ∧ Aside0 (Kd.R k41 41 wc w.heap.size (fun _ => True) (.slice Ao22 t240.length co22) t240) ∧ Aside0 (Kd.R (Kd.int .i64) 3 wc w.heap.size (fun _ => True) v250 t248) ∧ Aside0 (Below w.heap.size w wc))
        case first =>
         have H := HC20.out
         clear HC20
         by_cases c24 : (t240.length : Int) = (l0.length : Int)
         ·rw [if_pos c24] at H
          have c24b0 : ((t240.length : Int) == (l0.length : Int)) = true := beq_iff_eq.mpr c24
          have c24b1 : ((t240.length : Int) != (l0.length : Int)) = false := bne_eq_false_iff_eq.mpr c24
          have c24b2 : (t240.length == l0.length) = true := by first | simpa using c24 | (simp at c24 ⊢; omega)
          clear c24
          (first | rw [c24b0] | (simp only [i64_w, i32_w]; rw [c24b0]) | skip)
          by_cases c25 : 0 ≤ a1
          ·rw [if_pos c25] at H
           have c25b0 : decide (0 ≤ a1) = true := decide_eq_true c25
           clear c25
           by_cases c26 : a1 < (t240.length : Int)
           ·rw [if_pos c26] at H
            have c26b0 : decide (a1 < (t240.length : Int)) = true := decide_eq_true c26
            clear c26
            replace H := Option.bind_eq_some_iff.mp H
            obtain ⟨t254, A270, H⟩ := H
            replace H : (if ((rd_T41 t240 a1).f2) = t254 then (if ((decide (t252 ≥ 0)) != (t249 == 0)) = true then (corporalaw10_TreelabelHeads.j2 kj11 a1 a2 t240 t248 t252 true) else (corporalaw10_TreelabelHeads.j2 kj11 a1 a2 t240 t248 t252 (decide (t252 ≥ (l0.length : Int))))) else (corporalaw10_TreelabelHeads.j2 kj11 a1 a2 t240 t248 t252 true)) = some r := H
            have A27 := Aside0.mk A270
            clear A270
            by_cases c28 : ((rd_T41 t240 a1).f2) = t254
            ·rw [if_pos c28] at H
             have c28b0 : (((rd_T41 t240 a1).f2) == t254) = true := beq_iff_eq.mpr c28
             have c28b1 : (((rd_T41 t240 a1).f2) != t254) = false := bne_eq_false_iff_eq.mpr c28
             clear c28
             by_cases c29 : ((decide (t252 ≥ 0)) != (t249 == 0)) = true
             ·rw [if_pos c29] at H
              have c29b0 : ((decide (t252 ≥ 0)) != (t249 == 0)) = true := c29
              (try (have c29b1 : decide ((decide (t252 ≥ 0)) = (t249 == 0)) = false := by simpa using c29))
              (try (have c29b2 : ((decide (t252 ≥ 0)) == (t249 == 0)) = false := by simpa using c29))
              (try (have c29b3 : ¬ ((decide (t252 ≥ 0)) = (t249 == 0)) := by simpa using c29))
              clear c29
              have H' := Aside0.mk H
              clear H
              try go_wp2
              have n0_ := Aside0.mk (Kd.R_drew HO_8.out)
              have n1_ := Aside0.mk (Kd.R_drew HO251.out)
              have n2_ := Aside0.mk (below_drew1 HB.out)
              clear HO_8
              clear HO251
              clear HB
              have HO_8 := n0_
              have HO251 := n1_
              have HB := n2_
              clear n0_ n1_ n2_
              have p253 : 0 ≤ (a1 : Int) := of_decide_eq_true (by first | (with_reducible assumption) | assumption)
              have q253 : a1 < (t240.length : Int) := of_decide_eq_true (by first | (with_reducible assumption) | assumption)
              obtain ⟨ad253, e253, hx253_0, hx253_1, hx253_2⟩ := at_T41 (Kd.R_reads' HO_8.out).2.2 a1 p253 q253
              cases e253
              replace p253 := eq_true p253
              replace q253 := eq_true q253
              refine start_ (n := 27) (S := fun w' => w'.cell? (ad253.add ((a1).toNat * 3)) = some (.int .i64 ((rd_T41 t240 a1).f0)) ∧ w'.cell? ⟨(ad253.add ((a1).toNat * 3)).block, (ad253.add ((a1).toNat * 3)).off + 1, none⟩ = some (.int .i64 ((rd_T41 t240 a1).f1)) ∧ w'.cell? ⟨(ad253.add ((a1).toNat * 3)).block, (ad253.add ((a1).toNat * 3)).off + 2, none⟩ = some (.int .i64 ((rd_T41 t240 a1).f2))) (ds := []) #[false, false, false, false, false, false, false, false, false, false, false, false, false, false, false, false, false, false, false, false, false, false, false, false, false, false, false] (by kernel_rfl) rfl rfl ⟨hx253_0, hx253_1, hx253_2⟩ (fun hHeld => ?_); refine with_tabW corporalaw10_TreelabelHeads.tab12 corporalaw10_TreelabelHeads.bits12 (fun HT_ HW_ => ?_)
              generalize w23.drew = w30 at HO_8 HO251 HB hx253_0 hx253_1 hx253_2 hHeld ⊢
              refine pw_ 0 71 HT_.out (h := ?_)
              refine pw_ 1 72 HT_.out (h := ?_)
              refine pw_ 2 73 HT_.out (h := ?_)
              refine pw_ 3 74 HT_.out (h := ?_)
              refine pw_ 4 75 HT_.out (h := ?_)
              refine pw_ 5 76 HT_.out (h := ?_)
              refine pw_ 6 77 HT_.out (h := ?_)
              refine pw_ 7 78 HT_.out (h := ?_)
              refine pw_ 8 79 HT_.out (h := ?_)
              refine pw_ 10 81 HT_.out (h := ?_)
              refine pw_ 11 82 HT_.out (h := ?_)
              refine take_ (i := 9) (N := some 80) (v := ?_) (a' := ?_) #[true, true, true, true, true, true, true, true, true, true, true, true, false, false, false, false, false, false, false, false, false, false, false, false, false, false, false] rfl rfl (take_ofW HT_.out HW_.out (by kernel_rfl)) (fun _ _ _ h => h) (Or.inl ⟨by rfl, ?_⟩) hHeld ?_ ?_
              rotate_left
              ·rintro w' ⟨s0, s1, s2⟩
               go_simp
               with_reducible rfl
              rotate_left
              ·simp only [Act.put, List.setIfInBounds_toArray, List.set_cons_zero, List.set_cons_succ, i64_w, i32_w]
               rfl
              refine one_ (i := 12) (N := some 83) #[true, true, true, true, true, true, true, true, true, true, true, true, true, false, false, false, false, false, false, false, false, false, false, false, false, false, false] rfl rfl (one_of HT_.out (by kernel_rfl)) (by decide) (fun K hK => ?_)
              refine goes_ Try.func30 (by kernel_rfl) rfl #[.slice A0 l0.length c0, .int .i64 a1] (by rfl) rfl rfl (by (try simp only [List.map_toArray, List.map_cons, List.map_nil]); first | done | rfl | (simp only [List.length_drop, List.length_take]; rfl)) ?_
              with_reducible refine (depend_Depth.calls kj11 _ _ l0 a1 t254 _ ?side1 ?side2 A27.out).mono ?_
              (case side1 => repeat (first | exact (Kd.C_below HR0.out HB.out) | (with_reducible refine Kd.C_alloc ?_ _) | (with_reducible refine Kd.C_drewN ?_ _) | (with_reducible refine Kd.C_drew ?_)))
              (case side2 => exact HC0.out)
              rintro e w31 ⟨rfl, hb⟩
              have HS0_ := (hb.cell (World.block_lt_of_cell? _ _ (hHeld.1))).trans (hHeld.1)
              have HS1_ := (hb.cell (World.block_lt_of_cell? _ _ (hHeld.2.1))).trans (hHeld.2.1)
              have HS2_ := (hb.cell (World.block_lt_of_cell? _ _ (hHeld.2.2))).trans (hHeld.2.2)
              refine ⟨_, rfl, ?_⟩
              have n0_ := Aside0.mk (Kd.R_below (by (with_reducible repeat (first | apply Kd.R_alloc | apply Kd.R_drewN | apply Kd.R_drew)); exact HO_8.out) hb)
              have n1_ := Aside0.mk (Kd.R_below (by (with_reducible repeat (first | apply Kd.R_alloc | apply Kd.R_drewN | apply Kd.R_drew)); exact HO251.out) hb)
              have n2_ := Aside0.mk (below_step (by repeat (first | (with_reducible first | exact HB.out | apply below_alloc | apply pw_below_drewN | apply below_drew1) | exact HB.out)) hb)
              clear HO_8
              clear HO251
              clear HB
              have HO_8 := n0_
              have HO251 := n1_
              have HB := n2_
              clear n0_ n1_ n2_
              (try clear hb)
              (try clear hb2)
              (try clear hk)
              (try clear hi)
              refine hK.out _ _ ⟨HS0_, HS1_, HS2_⟩ (fun hHeld => ?_)
              clear hK K
              refine norm_ (a' := ?_) ?_ ?_
              rotate_left
              ·show Act.put _ (some 83) _ = _
               simp only [Act.put, List.setIfInBounds_toArray, List.set_cons_zero, List.set_cons_succ, i64_w, i32_w]
               rfl
              refine pw_ 13 84 HT_.out (h := ?_)
              refine pw_ 14 85 HT_.out (h := ?_)
              refine pw_ 15 86 HT_.out (h := ?_)
              refine pw_ 16 87 HT_.out (h := ?_)
              refine pw_ 17 88 HT_.out (h := ?_)
              refine pw_ 18 89 HT_.out (h := ?_)
              refine pw_ 19 90 HT_.out (h := ?_)
              refine pw_ 20 91 HT_.out (h := ?_)
              refine pw_ 21 92 HT_.out (h := ?_)
              refine pw_ 22 93 HT_.out (h := ?_)
              refine pn_ 23 94 HT_.out (h := ?_)
              refine pn_ 24 95 HT_.out (h := ?_)
              refine pn_ 25 96 HT_.out (h := ?_)
              refine pw_ 26 97 HT_.out (h := ?_)
              refine done_ (done_of HT_.out (by kernel_rfl)) ?_
              try go_wp2
              go_meet
              case rel => exact ⟨_, (true), (by first | rfl | (simp; done) | (simp [*]; done)), H', ⟨by have := HJ3.out; have := HJ11.out; first | omega | exact Nat.le_refl _⟩, ⟨by (with_reducible repeat (first | apply Kd.R_alloc | apply Kd.R_drewN | apply Kd.R_drew)); exact HO_8.out⟩, ⟨by (with_reducible repeat (first | apply Kd.R_alloc | apply Kd.R_drewN | apply Kd.R_drew)); exact HO251.out⟩, ⟨by repeat (first | (with_reducible first | exact HB.out | apply below_alloc | apply pw_below_drewN | apply below_drew1) | exact HB.out)⟩⟩
             ·rw [if_neg c29] at H
              have c29b0 : ((decide (t252 ≥ 0)) != (t249 == 0)) = false := by simpa using c29
              (try (have c29b1 : decide ((decide (t252 ≥ 0)) = (t249 == 0)) = true := by simpa using c29))
              (try (have c29b2 : ((decide (t252 ≥ 0)) == (t249 == 0)) = true := by simpa using c29))
              clear c29
              have H' := Aside0.mk H
              clear H
              try go_wp2
              have n0_ := Aside0.mk (Kd.R_drew HO_8.out)
              have n1_ := Aside0.mk (Kd.R_drew HO251.out)
              have n2_ := Aside0.mk (below_drew1 HB.out)
              clear HO_8
              clear HO251
              clear HB
              have HO_8 := n0_
              have HO251 := n1_
              have HB := n2_
              clear n0_ n1_ n2_
              have p253 : 0 ≤ (a1 : Int) := of_decide_eq_true (by first | (with_reducible assumption) | assumption)
              have q253 : a1 < (t240.length : Int) := of_decide_eq_true (by first | (with_reducible assumption) | assumption)
              obtain ⟨ad253, e253, hx253_0, hx253_1, hx253_2⟩ := at_T41 (Kd.R_reads' HO_8.out).2.2 a1 p253 q253
              cases e253
              replace p253 := eq_true p253
              replace q253 := eq_true q253
              refine start_ (n := 27) (S := fun w' => w'.cell? (ad253.add ((a1).toNat * 3)) = some (.int .i64 ((rd_T41 t240 a1).f0)) ∧ w'.cell? ⟨(ad253.add ((a1).toNat * 3)).block, (ad253.add ((a1).toNat * 3)).off + 1, none⟩ = some (.int .i64 ((rd_T41 t240 a1).f1)) ∧ w'.cell? ⟨(ad253.add ((a1).toNat * 3)).block, (ad253.add ((a1).toNat * 3)).off + 2, none⟩ = some (.int .i64 ((rd_T41 t240 a1).f2))) (ds := []) #[false, false, false, false, false, false, false, false, false, false, false, false, false, false, false, false, false, false, false, false, false, false, false, false, false, false, false] (by kernel_rfl) rfl rfl ⟨hx253_0, hx253_1, hx253_2⟩ (fun hHeld => ?_); refine with_tabW corporalaw10_TreelabelHeads.tab12 corporalaw10_TreelabelHeads.bits12 (fun HT_ HW_ => ?_)
              generalize w23.drew = w32 at HO_8 HO251 HB hx253_0 hx253_1 hx253_2 hHeld ⊢
              refine pw_ 0 71 HT_.out (h := ?_)
              refine pw_ 1 72 HT_.out (h := ?_)
              refine pw_ 2 73 HT_.out (h := ?_)
              refine pw_ 3 74 HT_.out (h := ?_)
              refine pw_ 4 75 HT_.out (h := ?_)
              refine pw_ 5 76 HT_.out (h := ?_)
              refine pw_ 6 77 HT_.out (h := ?_)
              refine pw_ 7 78 HT_.out (h := ?_)
              refine pw_ 8 79 HT_.out (h := ?_)
              refine pw_ 10 81 HT_.out (h := ?_)
              refine pw_ 11 82 HT_.out (h := ?_)
              refine take_ (i := 9) (N := some 80) (v := ?_) (a' := ?_) #[true, true, true, true, true, true, true, true, true, true, true, true, false, false, false, false, false, false, false, false, false, false, false, false, false, false, false] rfl rfl (take_ofW HT_.out HW_.out (by kernel_rfl)) (fun _ _ _ h => h) (Or.inl ⟨by rfl, ?_⟩) hHeld ?_ ?_
              rotate_left
              ·rintro w' ⟨s0, s1, s2⟩
               go_simp
               with_reducible rfl
              rotate_left
              ·simp only [Act.put, List.setIfInBounds_toArray, List.set_cons_zero, List.set_cons_succ, i64_w, i32_w]
               rfl
              refine one_ (i := 12) (N := some 83) #[true, true, true, true, true, true, true, true, true, true, true, true, true, false, false, false, false, false, false, false, false, false, false, false, false, false, false] rfl rfl (one_of HT_.out (by kernel_rfl)) (by decide) (fun K hK => ?_)
              refine goes_ Try.func30 (by kernel_rfl) rfl #[.slice A0 l0.length c0, .int .i64 a1] (by rfl) rfl rfl (by (try simp only [List.map_toArray, List.map_cons, List.map_nil]); first | done | rfl | (simp only [List.length_drop, List.length_take]; rfl)) ?_
              with_reducible refine (depend_Depth.calls kj11 _ _ l0 a1 t254 _ ?side1 ?side2 A27.out).mono ?_
              (case side1 => repeat (first | exact (Kd.C_below HR0.out HB.out) | (with_reducible refine Kd.C_alloc ?_ _) | (with_reducible refine Kd.C_drewN ?_ _) | (with_reducible refine Kd.C_drew ?_)))
              (case side2 => exact HC0.out)
              rintro e w33 ⟨rfl, hb⟩
              have HS0_ := (hb.cell (World.block_lt_of_cell? _ _ (hHeld.1))).trans (hHeld.1)
              have HS1_ := (hb.cell (World.block_lt_of_cell? _ _ (hHeld.2.1))).trans (hHeld.2.1)
              have HS2_ := (hb.cell (World.block_lt_of_cell? _ _ (hHeld.2.2))).trans (hHeld.2.2)
              refine ⟨_, rfl, ?_⟩
              have n0_ := Aside0.mk (Kd.R_below (by (with_reducible repeat (first | apply Kd.R_alloc | apply Kd.R_drewN | apply Kd.R_drew)); exact HO_8.out) hb)
              have n1_ := Aside0.mk (Kd.R_below (by (with_reducible repeat (first | apply Kd.R_alloc | apply Kd.R_drewN | apply Kd.R_drew)); exact HO251.out) hb)
              have n2_ := Aside0.mk (below_step (by repeat (first | (with_reducible first | exact HB.out | apply below_alloc | apply pw_below_drewN | apply below_drew1) | exact HB.out)) hb)
              clear HO_8
              clear HO251
              clear HB
              have HO_8 := n0_
              have HO251 := n1_
              have HB := n2_
              clear n0_ n1_ n2_
              (try clear hb)
              (try clear hb2)
              (try clear hk)
              (try clear hi)
              refine hK.out _ _ ⟨HS0_, HS1_, HS2_⟩ (fun hHeld => ?_)
              clear hK K
              refine norm_ (a' := ?_) ?_ ?_
              rotate_left
              ·show Act.put _ (some 83) _ = _
               simp only [Act.put, List.setIfInBounds_toArray, List.set_cons_zero, List.set_cons_succ, i64_w, i32_w]
               rfl
              refine pw_ 13 84 HT_.out (h := ?_)
              refine pw_ 14 85 HT_.out (h := ?_)
              refine pw_ 15 86 HT_.out (h := ?_)
              refine pw_ 16 87 HT_.out (h := ?_)
              refine pw_ 17 88 HT_.out (h := ?_)
              refine pw_ 18 89 HT_.out (h := ?_)
              refine pw_ 19 90 HT_.out (h := ?_)
              refine pw_ 20 91 HT_.out (h := ?_)
              refine pw_ 21 92 HT_.out (h := ?_)
              refine pw_ 22 93 HT_.out (h := ?_)
              refine pw_ 23 94 HT_.out (h := ?_)
              refine pw_ 24 95 HT_.out (h := ?_)
              refine pw_ 25 96 HT_.out (h := ?_)
              refine pw_ 26 97 HT_.out (h := ?_)
              refine done_ (done_of HT_.out (by kernel_rfl)) ?_
              try go_wp2
              go_meet
              case rel => exact ⟨_, (decide (t252 ≥ (l0.length : Int))), (by first | rfl | (simp; done) | (simp [*]; done)), H', ⟨by have := HJ3.out; have := HJ11.out; first | omega | exact Nat.le_refl _⟩, ⟨by (with_reducible repeat (first | apply Kd.R_alloc | apply Kd.R_drewN | apply Kd.R_drew)); exact HO_8.out⟩, ⟨by (with_reducible repeat (first | apply Kd.R_alloc | apply Kd.R_drewN | apply Kd.R_drew)); exact HO251.out⟩, ⟨by repeat (first | (with_reducible first | exact HB.out | apply below_alloc | apply pw_below_drewN | apply below_drew1) | exact HB.out)⟩⟩
            ·rw [if_neg c28] at H
             have c28b0 : (((rd_T41 t240 a1).f2) == t254) = false := beq_eq_false_iff_ne.mpr c28
             have c28b1 : (((rd_T41 t240 a1).f2) != t254) = true := bne_iff_ne.mpr c28
             have H' := Aside0.mk H
             clear H
             try go_wp2
             have n0_ := Aside0.mk (Kd.R_drew HO_8.out)
             have n1_ := Aside0.mk (Kd.R_drew HO251.out)
             have n2_ := Aside0.mk (below_drew1 HB.out)
             clear HO_8
             clear HO251
             clear HB
             have HO_8 := n0_
             have HO251 := n1_
             have HB := n2_
             clear n0_ n1_ n2_
             have p253 : 0 ≤ (a1 : Int) := of_decide_eq_true (by first | (with_reducible assumption) | assumption)
             have q253 : a1 < (t240.length : Int) := of_decide_eq_true (by first | (with_reducible assumption) | assumption)
             obtain ⟨ad253, e253, hx253_0, hx253_1, hx253_2⟩ := at_T41 (Kd.R_reads' HO_8.out).2.2 a1 p253 q253
             cases e253
             replace p253 := eq_true p253
             replace q253 := eq_true q253
             refine start_ (n := 27) (S := fun w' => w'.cell? (ad253.add ((a1).toNat * 3)) = some (.int .i64 ((rd_T41 t240 a1).f0)) ∧ w'.cell? ⟨(ad253.add ((a1).toNat * 3)).block, (ad253.add ((a1).toNat * 3)).off + 1, none⟩ = some (.int .i64 ((rd_T41 t240 a1).f1)) ∧ w'.cell? ⟨(ad253.add ((a1).toNat * 3)).block, (ad253.add ((a1).toNat * 3)).off + 2, none⟩ = some (.int .i64 ((rd_T41 t240 a1).f2))) (ds := []) #[false, false, false, false, false, false, false, false, false, false, false, false, false, false, false, false, false, false, false, false, false, false, false, false, false, false, false] (by kernel_rfl) rfl rfl ⟨hx253_0, hx253_1, hx253_2⟩ (fun hHeld => ?_); refine with_tabW corporalaw10_TreelabelHeads.tab12 corporalaw10_TreelabelHeads.bits12 (fun HT_ HW_ => ?_)
             generalize w23.drew = w34 at HO_8 HO251 HB hx253_0 hx253_1 hx253_2 hHeld ⊢
             refine pw_ 0 71 HT_.out (h := ?_)
             refine pw_ 1 72 HT_.out (h := ?_)
             refine pw_ 2 73 HT_.out (h := ?_)
             refine pw_ 3 74 HT_.out (h := ?_)
             refine pw_ 4 75 HT_.out (h := ?_)
             refine pw_ 5 76 HT_.out (h := ?_)
             refine pw_ 6 77 HT_.out (h := ?_)
             refine pw_ 7 78 HT_.out (h := ?_)
             refine pw_ 8 79 HT_.out (h := ?_)
             refine pw_ 10 81 HT_.out (h := ?_)
             refine pw_ 11 82 HT_.out (h := ?_)
             refine take_ (i := 9) (N := some 80) (v := ?_) (a' := ?_) #[true, true, true, true, true, true, true, true, true, true, true, true, false, false, false, false, false, false, false, false, false, false, false, false, false, false, false] rfl rfl (take_ofW HT_.out HW_.out (by kernel_rfl)) (fun _ _ _ h => h) (Or.inl ⟨by rfl, ?_⟩) hHeld ?_ ?_
             rotate_left
             ·rintro w' ⟨s0, s1, s2⟩
              go_simp
              with_reducible rfl
             rotate_left
             ·simp only [Act.put, List.setIfInBounds_toArray, List.set_cons_zero, List.set_cons_succ, i64_w, i32_w]
              rfl
             refine one_ (i := 12) (N := some 83) #[true, true, true, true, true, true, true, true, true, true, true, true, true, false, false, false, false, false, false, false, false, false, false, false, false, false, false] rfl rfl (one_of HT_.out (by kernel_rfl)) (by decide) (fun K hK => ?_)
             refine goes_ Try.func30 (by kernel_rfl) rfl #[.slice A0 l0.length c0, .int .i64 a1] (by rfl) rfl rfl (by (try simp only [List.map_toArray, List.map_cons, List.map_nil]); first | done | rfl | (simp only [List.length_drop, List.length_take]; rfl)) ?_
             with_reducible refine (depend_Depth.calls kj11 _ _ l0 a1 t254 _ ?side1 ?side2 A27.out).mono ?_
             (case side1 => repeat (first | exact (Kd.C_below HR0.out HB.out) | (with_reducible refine Kd.C_alloc ?_ _) | (with_reducible refine Kd.C_drewN ?_ _) | (with_reducible refine Kd.C_drew ?_)))
             (case side2 => exact HC0.out)
             rintro e w35 ⟨rfl, hb⟩
             have HS0_ := (hb.cell (World.block_lt_of_cell? _ _ (hHeld.1))).trans (hHeld.1)
             have HS1_ := (hb.cell (World.block_lt_of_cell? _ _ (hHeld.2.1))).trans (hHeld.2.1)
             have HS2_ := (hb.cell (World.block_lt_of_cell? _ _ (hHeld.2.2))).trans (hHeld.2.2)
             refine ⟨_, rfl, ?_⟩
             have n0_ := Aside0.mk (Kd.R_below (by (with_reducible repeat (first | apply Kd.R_alloc | apply Kd.R_drewN | apply Kd.R_drew)); exact HO_8.out) hb)
             have n1_ := Aside0.mk (Kd.R_below (by (with_reducible repeat (first | apply Kd.R_alloc | apply Kd.R_drewN | apply Kd.R_drew)); exact HO251.out) hb)
             have n2_ := Aside0.mk (below_step (by repeat (first | (with_reducible first | exact HB.out | apply below_alloc | apply pw_below_drewN | apply below_drew1) | exact HB.out)) hb)
             clear HO_8
             clear HO251
             clear HB
             have HO_8 := n0_
             have HO251 := n1_
             have HB := n2_
             clear n0_ n1_ n2_
             (try clear hb)
             (try clear hb2)
             (try clear hk)
             (try clear hi)
             refine hK.out _ _ ⟨HS0_, HS1_, HS2_⟩ (fun hHeld => ?_)
             clear hK K
             refine norm_ (a' := ?_) ?_ ?_
             rotate_left
             ·show Act.put _ (some 83) _ = _
              simp only [Act.put, List.setIfInBounds_toArray, List.set_cons_zero, List.set_cons_succ, i64_w, i32_w]
              rfl
             refine pw_ 13 84 HT_.out (h := ?_)
             refine pw_ 14 85 HT_.out (h := ?_)
             refine pw_ 15 86 HT_.out (h := ?_)
             refine pn_ 16 87 HT_.out (h := ?_)
             refine pn_ 17 88 HT_.out (h := ?_)
             refine pn_ 18 89 HT_.out (h := ?_)
             refine pn_ 19 90 HT_.out (h := ?_)
             refine pn_ 20 91 HT_.out (h := ?_)
             refine pw_ 21 92 HT_.out (h := ?_)
             refine pw_ 22 93 HT_.out (h := ?_)
             refine pn_ 23 94 HT_.out (h := ?_)
             refine pn_ 24 95 HT_.out (h := ?_)
             refine pn_ 25 96 HT_.out (h := ?_)
             refine pw_ 26 97 HT_.out (h := ?_)
             refine done_ (done_of HT_.out (by kernel_rfl)) ?_
             try go_wp2
             go_meet
             case rel => exact ⟨_, (true), (by first | rfl | (simp; done) | (simp [*]; done)), H', ⟨by have := HJ3.out; have := HJ11.out; first | omega | exact Nat.le_refl _⟩, ⟨by (with_reducible repeat (first | apply Kd.R_alloc | apply Kd.R_drewN | apply Kd.R_drew)); exact HO_8.out⟩, ⟨by (with_reducible repeat (first | apply Kd.R_alloc | apply Kd.R_drewN | apply Kd.R_drew)); exact HO251.out⟩, ⟨by repeat (first | (with_reducible first | exact HB.out | apply below_alloc | apply pw_below_drewN | apply below_drew1) | exact HB.out)⟩⟩
           ·rw [if_neg c26] at H
            exact absurd H (by simp)
          ·rw [if_neg c25] at H
           exact absurd H (by simp)
         ·rw [if_neg c24] at H
          have c24b0 : ((t240.length : Int) == (l0.length : Int)) = false := beq_eq_false_iff_ne.mpr c24
          have c24b1 : ((t240.length : Int) != (l0.length : Int)) = true := bne_iff_ne.mpr c24
          have c24b2 : (t240.length == l0.length) = false := by first | simpa using c24 | (simp at c24 ⊢; omega)
          (first | rw [c24b0] | (simp only [i64_w, i32_w]; rw [c24b0]) | skip)
          have H' := Aside0.mk H
          clear H
          try go_wp2
          have n0_ := Aside0.mk (Kd.R_drew HO_8.out)
          have n1_ := Aside0.mk (Kd.R_drew HO251.out)
          have n2_ := Aside0.mk (below_drew1 HB.out)
          clear HO_8
          clear HO251
          clear HB
          have HO_8 := n0_
          have HO251 := n1_
          have HB := n2_
          clear n0_ n1_ n2_
          refine start_ (n := 27) (S := fun w' => True) (ds := []) #[false, false, false, false, false, false, false, false, false, false, false, false, false, false, false, false, false, false, false, false, false, false, false, false, false, false, false] (by kernel_rfl) rfl rfl trivial (fun hHeld => ?_); refine with_tabW corporalaw10_TreelabelHeads.tab12 corporalaw10_TreelabelHeads.bits12 (fun HT_ HW_ => ?_)
          generalize w23.drew = w36 at HO_8 HO251 HB hHeld ⊢
          refine pw_ 0 71 HT_.out (h := ?_)
          refine pw_ 1 72 HT_.out (h := ?_)
          refine pw_ 2 73 HT_.out (h := ?_)
          refine pw_ 3 74 HT_.out (h := ?_)
          refine pw_ 4 75 HT_.out (h := ?_)
          refine pn_ 5 76 HT_.out (h := ?_)
          refine pn_ 6 77 HT_.out (h := ?_)
          refine pn_ 7 78 HT_.out (h := ?_)
          refine pn_ 8 79 HT_.out (h := ?_)
          refine pn_ 9 80 HT_.out (h := ?_)
          refine pn_ 10 81 HT_.out (h := ?_)
          refine pn_ 11 82 HT_.out (h := ?_)
          refine pn_ 12 83 HT_.out (h := ?_)
          refine pn_ 13 84 HT_.out (h := ?_)
          refine pw_ 14 85 HT_.out (h := ?_)
          refine pw_ 15 86 HT_.out (h := ?_)
          refine pn_ 16 87 HT_.out (h := ?_)
          refine pn_ 17 88 HT_.out (h := ?_)
          refine pn_ 18 89 HT_.out (h := ?_)
          refine pn_ 19 90 HT_.out (h := ?_)
          refine pn_ 20 91 HT_.out (h := ?_)
          refine pw_ 21 92 HT_.out (h := ?_)
          refine pw_ 22 93 HT_.out (h := ?_)
          refine pn_ 23 94 HT_.out (h := ?_)
          refine pn_ 24 95 HT_.out (h := ?_)
          refine pn_ 25 96 HT_.out (h := ?_)
          refine pw_ 26 97 HT_.out (h := ?_)
          refine done_ (done_of HT_.out (by kernel_rfl)) ?_
          try go_wp2
          go_meet
          case rel => exact ⟨_, (true), (by first | rfl | (simp; done) | (simp [*]; done)), H', ⟨by have := HJ3.out; have := HJ11.out; first | omega | exact Nat.le_refl _⟩, ⟨by (with_reducible repeat (first | apply Kd.R_alloc | apply Kd.R_drewN | apply Kd.R_drew)); exact HO_8.out⟩, ⟨by (with_reducible repeat (first | apply Kd.R_alloc | apply Kd.R_drewN | apply Kd.R_drew)); exact HO251.out⟩, ⟨by repeat (first | (with_reducible first | exact HB.out | apply below_alloc | apply pw_below_drewN | apply below_drew1) | exact HB.out)⟩⟩
        case rest =>
         clear HC20
         try clear c2
         try clear p2
         try clear q2
         try clear hx2
         try clear c3
         try clear c24
         try clear c24b0
         try clear c24b1
         try clear c24b2
         try clear c25
         try clear p25
         try clear q25
         try clear hx25
         try clear c26
         try clear c28
         try clear c28b0
         try clear c28b1
         try clear c30
         try clear hx253_0
         try clear hx253_1
         try clear hx253_2
         try clear p253
         try clear q253
         obtain ⟨kq, x97_19, rfl, HA, HJ19, HO_8, HO_13, HB⟩ := hcut
         cases kq with
         | zero => exact absurd HA.out (by simp [corporalaw10_TreelabelHeads.j2])
         | succ kj19 =>
          have H := HA.out
          clear HA
          simp only [corporalaw10_TreelabelHeads.j2] at H
          by_cases c37 : x97_19 = true
          ·subst c37
           have H1 : (some false) = some r := by rw [if_pos rfl] at H; exact H
           clear H
           have H := H1
           clear H1
           obtain rfl := Option.some.inj H
           go_wp2
           go_ret
           exact ⟨by first | rfl | (simp [errW_none, errW_some] <;> rfl) | (simp [*, errW_none, errW_some] <;> rfl), by repeat (first | (with_reducible first | exact HB.out | apply below_alloc | apply pw_below_drewN | apply below_drew1) | exact HB.out)⟩
          ·replace c37 := Bool.eq_false_iff.mpr c37
           subst c37
           have H1 : (if t252 < 0 then (if (t248.length : Int) = 0 then ((corporalaw10_awake.f kj19).bind fun t255 => (some t255)) else (some false)) else (if 0 ≤ a1 then (if a1 < (t240.length : Int) then (if 0 ≤ a2 then (if a2 < (t240.length : Int) then (if 0 ≤ t252 then (if t252 < (t240.length : Int) then (if (t248.length : Int) = (wrap64 ((wrap64 ((wrap64 (((rd_T41 t240 a1).f2) + ((rd_T41 t240 a2).f2))) - (wrap64 (2 * ((rd_T41 t240 t252).f2))))) + 1)) then ((corporalaw10_awake.f kj19).bind fun t259 => (some t259)) else (some false)) else (none)) else (none)) else (none)) else (none)) else (none)) else (none))) = some r := by rw [if_neg (show ¬ (false = true) by decide)] at H; exact H
           clear H
           have H := H1
           clear H1
           by_cases c38 : t252 < 0
           ·rw [if_pos c38] at H
            have c38b0 : decide (t252 < 0) = true := decide_eq_true c38
            clear c38
            by_cases c39 : (t248.length : Int) = 0
            ·rw [if_pos c39] at H
             have c39b0 : ((t248.length : Int) == 0) = true := beq_iff_eq.mpr c39
             have c39b1 : ((t248.length : Int) != 0) = false := bne_eq_false_iff_eq.mpr c39
             clear c39
             replace H := Option.bind_eq_some_iff.mp H
             obtain ⟨t255, A400, H⟩ := H
             replace H : (some t255) = some r := H
             have A40 := Aside0.mk A400
             clear A400
             obtain rfl := Option.some.inj H
             obtain ⟨Ao41, co41, eo41⟩ := Kd.R_slice HO_13.out
             subst eo41
             go_wp2_with (first | (go_at_call 14; (with_reducible refine (corporalaw10_awake.calls kj19  t255 _ A40.out).mono ?_); rintro e w42 ⟨rfl, hb⟩; have n0_ := Aside0.mk (Kd.R_below (by (with_reducible repeat (first | apply Kd.R_alloc | apply Kd.R_drewN | apply Kd.R_drew)); exact HO_8.out) hb); have n1_ := Aside0.mk (Kd.R_below (by (with_reducible repeat (first | apply Kd.R_alloc | apply Kd.R_drewN | apply Kd.R_drew)); exact HO_13.out) hb); have n2_ := Aside0.mk (below_step (by repeat (first | (with_reducible first | exact HB.out | apply below_alloc | apply pw_below_drewN | apply below_drew1) | exact HB.out)) hb); clear HO_8; clear HO_13; clear HB; have HO_8 := n0_; have HO_13 := n1_; have HB := n2_; clear n0_ n1_ n2_; (try clear hb); (try clear hb2); (try clear hk); (try clear hi)))
             go_ret
             exact ⟨by first | rfl | (simp [errW_none, errW_some] <;> rfl) | (simp [*, errW_none, errW_some] <;> rfl), by repeat (first | (with_reducible first | exact HB.out | apply below_alloc | apply pw_below_drewN | apply below_drew1) | exact HB.out)⟩
            ·rw [if_neg c39] at H
             have c39b0 : ((t248.length : Int) == 0) = false := beq_eq_false_iff_ne.mpr c39
             have c39b1 : ((t248.length : Int) != 0) = true := bne_iff_ne.mpr c39
             have c39b2 : ¬ (t248 = []) := fun h_ => c39 (by rw [h_]; rfl)
             obtain rfl := Option.some.inj H
             obtain ⟨Ao43, co43, eo43⟩ := Kd.R_slice HO_13.out
             subst eo43
             go_wp2
             go_ret
             exact ⟨by first | rfl | (simp [errW_none, errW_some] <;> rfl) | (simp [*, errW_none, errW_some] <;> rfl), by repeat (first | (with_reducible first | exact HB.out | apply below_alloc | apply pw_below_drewN | apply below_drew1) | exact HB.out)⟩
           ·rw [if_neg c38] at H
            have c38b0 : decide (t252 < 0) = false := decide_eq_false c38
            clear c38
            by_cases c44 : 0 ≤ a1
            ·rw [if_pos c44] at H
             have c44b0 : decide (0 ≤ a1) = true := decide_eq_true c44
             clear c44
             by_cases c45 : a1 < (t240.length : Int)
             ·rw [if_pos c45] at H
              have c45b0 : decide (a1 < (t240.length : Int)) = true := decide_eq_true c45
              clear c45
              by_cases c46 : 0 ≤ a2
              ·rw [if_pos c46] at H
               have c46b0 : decide (0 ≤ a2) = true := decide_eq_true c46
               clear c46
               by_cases c47 : a2 < (t240.length : Int)
               ·rw [if_pos c47] at H
                have c47b0 : decide (a2 < (t240.length : Int)) = true := decide_eq_true c47
                clear c47
                by_cases c48 : 0 ≤ t252
                ·rw [if_pos c48] at H
                 have c48b0 : decide (0 ≤ t252) = true := decide_eq_true c48
                 clear c48
                 by_cases c49 : t252 < (t240.length : Int)
                 ·rw [if_pos c49] at H
                  have c49b0 : decide (t252 < (t240.length : Int)) = true := decide_eq_true c49
                  clear c49
                  by_cases c50 : (t248.length : Int) = (wrap64 ((wrap64 ((wrap64 (((rd_T41 t240 a1).f2) + ((rd_T41 t240 a2).f2))) - (wrap64 (2 * ((rd_T41 t240 t252).f2))))) + 1))
                  ·rw [if_pos c50] at H
                   have c50b0 : ((t248.length : Int) == (wrap64 ((wrap64 ((wrap64 (((rd_T41 t240 a1).f2) + ((rd_T41 t240 a2).f2))) - (wrap64 (2 * ((rd_T41 t240 t252).f2))))) + 1))) = true := beq_iff_eq.mpr c50
                   have c50b1 : ((t248.length : Int) != (wrap64 ((wrap64 ((wrap64 (((rd_T41 t240 a1).f2) + ((rd_T41 t240 a2).f2))) - (wrap64 (2 * ((rd_T41 t240 t252).f2))))) + 1))) = false := bne_eq_false_iff_eq.mpr c50
                   clear c50
                   replace H := Option.bind_eq_some_iff.mp H
                   obtain ⟨t259, A510, H⟩ := H
                   replace H : (some t259) = some r := H
                   have A51 := Aside0.mk A510
                   clear A510
                   obtain rfl := Option.some.inj H
                   try go_wp2
                   have n0_ := Aside0.mk (Kd.R_drew HO_8.out)
                   have n1_ := Aside0.mk (Kd.R_drew HO_13.out)
                   have n2_ := Aside0.mk (below_drew1 HB.out)
                   clear HO_8
                   clear HO_13
                   clear HB
                   have HO_8 := n0_
                   have HO_13 := n1_
                   have HB := n2_
                   clear n0_ n1_ n2_
                   obtain ⟨Ao53, co53, eo53⟩ := Kd.R_slice HO_13.out
                   (first | subst eo53 | (injection eo53 with f1_ f2_ f3_; have f4_ := f1_.symm; have f5_ := f3_.symm; clear f1_ f2_ f3_; subst f4_; subst f5_))
                   have p256 : 0 ≤ (a1 : Int) := of_decide_eq_true (by first | (with_reducible assumption) | assumption)
                   have q256 : a1 < (t240.length : Int) := of_decide_eq_true (by first | (with_reducible assumption) | assumption)
                   obtain ⟨ad256, e256, hx256_0, hx256_1, hx256_2⟩ := at_T41 (Kd.R_reads' HO_8.out).2.2 a1 p256 q256
                   cases e256
                   replace p256 := eq_true p256
                   replace q256 := eq_true q256
                   have p257 : 0 ≤ (a2 : Int) := of_decide_eq_true (by first | (with_reducible assumption) | assumption)
                   have q257 : a2 < (t240.length : Int) := of_decide_eq_true (by first | (with_reducible assumption) | assumption)
                   obtain ⟨ad257, e257, hx257_0, hx257_1, hx257_2⟩ := at_T41 (Kd.R_reads' HO_8.out).2.2 a2 p257 q257
                   obtain rfl : ad256 = ad257 := (by injection e257)
                   replace p257 := eq_true p257
                   replace q257 := eq_true q257
                   have p258 : 0 ≤ (t252 : Int) := of_decide_eq_true (by first | (with_reducible assumption) | assumption)
                   have q258 : t252 < (t240.length : Int) := of_decide_eq_true (by first | (with_reducible assumption) | assumption)
                   obtain ⟨ad258, e258, hx258_0, hx258_1, hx258_2⟩ := at_T41 (Kd.R_reads' HO_8.out).2.2 t252 p258 q258
                   obtain rfl : ad256 = ad258 := (by injection e258)
                   replace p258 := eq_true p258
                   replace q258 := eq_true q258
                   refine start_ (n := 26) (S := fun w' => w'.cell? (ad256.add ((a1).toNat * 3)) = some (.int .i64 ((rd_T41 t240 a1).f0)) ∧ w'.cell? ⟨(ad256.add ((a1).toNat * 3)).block, (ad256.add ((a1).toNat * 3)).off + 1, none⟩ = some (.int .i64 ((rd_T41 t240 a1).f1)) ∧ w'.cell? ⟨(ad256.add ((a1).toNat * 3)).block, (ad256.add ((a1).toNat * 3)).off + 2, none⟩ = some (.int .i64 ((rd_T41 t240 a1).f2)) ∧ w'.cell? (ad256.add ((a2).toNat * 3)) = some (.int .i64 ((rd_T41 t240 a2).f0)) ∧ w'.cell? ⟨(ad256.add ((a2).toNat * 3)).block, (ad256.add ((a2).toNat * 3)).off + 1, none⟩ = some (.int .i64 ((rd_T41 t240 a2).f1)) ∧ w'.cell? ⟨(ad256.add ((a2).toNat * 3)).block, (ad256.add ((a2).toNat * 3)).off + 2, none⟩ = some (.int .i64 ((rd_T41 t240 a2).f2)) ∧ w'.cell? (ad256.add ((t252).toNat * 3)) = some (.int .i64 ((rd_T41 t240 t252).f0)) ∧ w'.cell? ⟨(ad256.add ((t252).toNat * 3)).block, (ad256.add ((t252).toNat * 3)).off + 1, none⟩ = some (.int .i64 ((rd_T41 t240 t252).f1)) ∧ w'.cell? ⟨(ad256.add ((t252).toNat * 3)).block, (ad256.add ((t252).toNat * 3)).off + 2, none⟩ = some (.int .i64 ((rd_T41 t240 t252).f2))) (ds := []) #[false, false, false, false, false, false, false, false, false, false, false, false, false, false, false, false, false, false, false, false, false, false, false, false, false, false] (by kernel_rfl) rfl rfl ⟨hx256_0, hx256_1, hx256_2, hx257_0, hx257_1, hx257_2, hx258_0, hx258_1, hx258_2⟩ (fun hHeld => ?_); refine with_tabW corporalaw10_TreelabelHeads.tab16 corporalaw10_TreelabelHeads.bits16 (fun HT_ HW_ => ?_)
                   generalize wc.drew = w52 at HO_8 HO_13 HB hx256_0 hx256_1 hx256_2 hx257_0 hx257_1 hx257_2 hx258_0 hx258_1 hx258_2 hHeld ⊢
                   refine pw_ 0 106 HT_.out (h := ?_)
                   refine pw_ 1 107 HT_.out (h := ?_)
                   refine pw_ 2 108 HT_.out (h := ?_)
                   refine pw_ 3 109 HT_.out (h := ?_)
                   refine pw_ 4 110 HT_.out (h := ?_)
                   refine pw_ 5 111 HT_.out (h := ?_)
                   refine pw_ 7 113 HT_.out (h := ?_)
                   refine pw_ 8 114 HT_.out (h := ?_)
                   refine pw_ 9 115 HT_.out (h := ?_)
                   refine pw_ 10 116 HT_.out (h := ?_)
                   refine pw_ 13 119 HT_.out (h := ?_)
                   refine pw_ 14 120 HT_.out (h := ?_)
                   refine pw_ 15 121 HT_.out (h := ?_)
                   refine pw_ 16 122 HT_.out (h := ?_)
                   refine take_ (i := 6) (N := some 112) (v := ?_) (a' := ?_) #[true, true, true, true, true, true, true, true, true, true, true, false, false, true, true, true, true, false, false, false, false, false, false, false, false, false] rfl rfl (take_ofW HT_.out HW_.out (by kernel_rfl)) (fun _ _ _ h => h) (Or.inl ⟨by rfl, ?_⟩) hHeld ?_ ?_
                   rotate_left
                   ·rintro w' ⟨s0, s1, s2, s3, s4, s5, s6, s7, s8⟩
                    go_simp
                    with_reducible rfl
                   rotate_left
                   ·simp only [Act.put, List.setIfInBounds_toArray, List.set_cons_zero, List.set_cons_succ, i64_w, i32_w]
                    rfl
                   refine take_ (i := 11) (N := some 117) (v := ?_) (a' := ?_) #[true, true, true, true, true, true, true, true, true, true, true, true, false, true, true, true, true, false, false, false, false, false, false, false, false, false] rfl rfl (take_ofW HT_.out HW_.out (by kernel_rfl)) (fun _ _ _ h => h) (Or.inl ⟨by rfl, ?_⟩) hHeld ?_ ?_
                   rotate_left
                   ·rintro w' ⟨s0, s1, s2, s3, s4, s5, s6, s7, s8⟩
                    go_simp
                    with_reducible rfl
                   rotate_left
                   ·simp only [Act.put, List.setIfInBounds_toArray, List.set_cons_zero, List.set_cons_succ, i64_w, i32_w]
                    rfl
                   refine pw_ 12 118 HT_.out (h := ?_)
                   refine take_ (i := 17) (N := some 123) (v := ?_) (a' := ?_) #[true, true, true, true, true, true, true, true, true, true, true, true, true, true, true, true, true, true, false, false, false, false, false, false, false, false] rfl rfl (take_ofW HT_.out HW_.out (by kernel_rfl)) (fun _ _ _ h => h) (Or.inl ⟨by rfl, ?_⟩) hHeld ?_ ?_
                   rotate_left
                   ·rintro w' ⟨s0, s1, s2, s3, s4, s5, s6, s7, s8⟩
                    go_simp
                    with_reducible rfl
                   rotate_left
                   ·simp only [Act.put, List.setIfInBounds_toArray, List.set_cons_zero, List.set_cons_succ, i64_w, i32_w]
                    rfl
                   refine pw_ 18 124 HT_.out (h := ?_)
                   refine pw_ 19 125 HT_.out (h := ?_)
                   refine pw_ 20 126 HT_.out (h := ?_)
                   refine pw_ 21 127 HT_.out (h := ?_)
                   refine pw_ 22 128 HT_.out (h := ?_)
                   refine one_ (i := 23) (N := some 129) #[true, true, true, true, true, true, true, true, true, true, true, true, true, true, true, true, true, true, true, true, true, true, true, true, false, false] rfl rfl (one_of HT_.out (by kernel_rfl)) (by decide) (fun K hK => ?_)
                   refine goes_ Try.func14 (by kernel_rfl) rfl #[] (by rfl) rfl rfl (by (try simp only [List.map_toArray, List.map_cons, List.map_nil]); first | done | rfl | (simp only [List.length_drop, List.length_take]; rfl)) ?_
                   with_reducible refine (corporalaw10_awake.calls kj19  t259 _ A51.out).mono ?_
                   rintro e w54 ⟨rfl, hb⟩
                   have HS0_ := (hb.cell (World.block_lt_of_cell? _ _ (hHeld.1))).trans (hHeld.1)
                   have HS1_ := (hb.cell (World.block_lt_of_cell? _ _ (hHeld.2.1))).trans (hHeld.2.1)
                   have HS2_ := (hb.cell (World.block_lt_of_cell? _ _ (hHeld.2.2.1))).trans (hHeld.2.2.1)
                   have HS3_ := (hb.cell (World.block_lt_of_cell? _ _ (hHeld.2.2.2.1))).trans (hHeld.2.2.2.1)
                   have HS4_ := (hb.cell (World.block_lt_of_cell? _ _ (hHeld.2.2.2.2.1))).trans (hHeld.2.2.2.2.1)
                   have HS5_ := (hb.cell (World.block_lt_of_cell? _ _ (hHeld.2.2.2.2.2.1))).trans (hHeld.2.2.2.2.2.1)
                   have HS6_ := (hb.cell (World.block_lt_of_cell? _ _ (hHeld.2.2.2.2.2.2.1))).trans (hHeld.2.2.2.2.2.2.1)
                   have HS7_ := (hb.cell (World.block_lt_of_cell? _ _ (hHeld.2.2.2.2.2.2.2.1))).trans (hHeld.2.2.2.2.2.2.2.1)
                   have HS8_ := (hb.cell (World.block_lt_of_cell? _ _ (hHeld.2.2.2.2.2.2.2.2))).trans (hHeld.2.2.2.2.2.2.2.2)
                   refine ⟨_, rfl, ?_⟩
                   have n0_ := Aside0.mk (Kd.R_below (by (with_reducible repeat (first | apply Kd.R_alloc | apply Kd.R_drewN | apply Kd.R_drew)); exact HO_8.out) hb)
                   have n1_ := Aside0.mk (Kd.R_below (by (with_reducible repeat (first | apply Kd.R_alloc | apply Kd.R_drewN | apply Kd.R_drew)); exact HO_13.out) hb)
                   have n2_ := Aside0.mk (below_step (by repeat (first | (with_reducible first | exact HB.out | apply below_alloc | apply pw_below_drewN | apply below_drew1) | exact HB.out)) hb)
                   clear HO_8
                   clear HO_13
                   clear HB
                   have HO_8 := n0_
                   have HO_13 := n1_
                   have HB := n2_
                   clear n0_ n1_ n2_
                   (try clear hb)
                   (try clear hb2)
                   (try clear hk)
                   (try clear hi)
                   refine hK.out _ _ ⟨HS0_, HS1_, HS2_, HS3_, HS4_, HS5_, HS6_, HS7_, HS8_⟩ (fun hHeld => ?_)
                   clear hK K
                   refine norm_ (a' := ?_) ?_ ?_
                   rotate_left
                   ·show Act.put _ (some 129) _ = _
                    simp only [Act.put, List.setIfInBounds_toArray, List.set_cons_zero, List.set_cons_succ, i64_w, i32_w]
                    rfl
                   refine pw_ 24 130 HT_.out (h := ?_)
                   refine pw_ 25 6 HT_.out (h := ?_)
                   refine done_ (done_of HT_.out (by kernel_rfl)) ?_
                   try go_wp2
                   go_ret
                   exact ⟨by first | rfl | (simp [errW_none, errW_some] <;> rfl) | (simp [*, errW_none, errW_some] <;> rfl), by repeat (first | (with_reducible first | exact HB.out | apply below_alloc | apply pw_below_drewN | apply below_drew1) | exact HB.out)⟩
                  ·rw [if_neg c50] at H
                   have c50b0 : ((t248.length : Int) == (wrap64 ((wrap64 ((wrap64 (((rd_T41 t240 a1).f2) + ((rd_T41 t240 a2).f2))) - (wrap64 (2 * ((rd_T41 t240 t252).f2))))) + 1))) = false := beq_eq_false_iff_ne.mpr c50
                   have c50b1 : ((t248.length : Int) != (wrap64 ((wrap64 ((wrap64 (((rd_T41 t240 a1).f2) + ((rd_T41 t240 a2).f2))) - (wrap64 (2 * ((rd_T41 t240 t252).f2))))) + 1))) = true := bne_iff_ne.mpr c50
                   obtain rfl := Option.some.inj H
                   try go_wp2
                   have n0_ := Aside0.mk (Kd.R_drew HO_8.out)
                   have n1_ := Aside0.mk (Kd.R_drew HO_13.out)
                   have n2_ := Aside0.mk (below_drew1 HB.out)
                   clear HO_8
                   clear HO_13
                   clear HB
                   have HO_8 := n0_
                   have HO_13 := n1_
                   have HB := n2_
                   clear n0_ n1_ n2_
                   obtain ⟨Ao56, co56, eo56⟩ := Kd.R_slice HO_13.out
                   (first | subst eo56 | (injection eo56 with f1_ f2_ f3_; have f4_ := f1_.symm; have f5_ := f3_.symm; clear f1_ f2_ f3_; subst f4_; subst f5_))
                   have p256 : 0 ≤ (a1 : Int) := of_decide_eq_true (by first | (with_reducible assumption) | assumption)
                   have q256 : a1 < (t240.length : Int) := of_decide_eq_true (by first | (with_reducible assumption) | assumption)
                   obtain ⟨ad256, e256, hx256_0, hx256_1, hx256_2⟩ := at_T41 (Kd.R_reads' HO_8.out).2.2 a1 p256 q256
                   cases e256
                   replace p256 := eq_true p256
                   replace q256 := eq_true q256
                   have p257 : 0 ≤ (a2 : Int) := of_decide_eq_true (by first | (with_reducible assumption) | assumption)
                   have q257 : a2 < (t240.length : Int) := of_decide_eq_true (by first | (with_reducible assumption) | assumption)
                   obtain ⟨ad257, e257, hx257_0, hx257_1, hx257_2⟩ := at_T41 (Kd.R_reads' HO_8.out).2.2 a2 p257 q257
                   obtain rfl : ad256 = ad257 := (by injection e257)
                   replace p257 := eq_true p257
                   replace q257 := eq_true q257
                   have p258 : 0 ≤ (t252 : Int) := of_decide_eq_true (by first | (with_reducible assumption) | assumption)
                   have q258 : t252 < (t240.length : Int) := of_decide_eq_true (by first | (with_reducible assumption) | assumption)
                   obtain ⟨ad258, e258, hx258_0, hx258_1, hx258_2⟩ := at_T41 (Kd.R_reads' HO_8.out).2.2 t252 p258 q258
                   obtain rfl : ad256 = ad258 := (by injection e258)
                   replace p258 := eq_true p258
                   replace q258 := eq_true q258
                   refine start_ (n := 26) (S := fun w' => w'.cell? (ad256.add ((a1).toNat * 3)) = some (.int .i64 ((rd_T41 t240 a1).f0)) ∧ w'.cell? ⟨(ad256.add ((a1).toNat * 3)).block, (ad256.add ((a1).toNat * 3)).off + 1, none⟩ = some (.int .i64 ((rd_T41 t240 a1).f1)) ∧ w'.cell? ⟨(ad256.add ((a1).toNat * 3)).block, (ad256.add ((a1).toNat * 3)).off + 2, none⟩ = some (.int .i64 ((rd_T41 t240 a1).f2)) ∧ w'.cell? (ad256.add ((a2).toNat * 3)) = some (.int .i64 ((rd_T41 t240 a2).f0)) ∧ w'.cell? ⟨(ad256.add ((a2).toNat * 3)).block, (ad256.add ((a2).toNat * 3)).off + 1, none⟩ = some (.int .i64 ((rd_T41 t240 a2).f1)) ∧ w'.cell? ⟨(ad256.add ((a2).toNat * 3)).block, (ad256.add ((a2).toNat * 3)).off + 2, none⟩ = some (.int .i64 ((rd_T41 t240 a2).f2)) ∧ w'.cell? (ad256.add ((t252).toNat * 3)) = some (.int .i64 ((rd_T41 t240 t252).f0)) ∧ w'.cell? ⟨(ad256.add ((t252).toNat * 3)).block, (ad256.add ((t252).toNat * 3)).off + 1, none⟩ = some (.int .i64 ((rd_T41 t240 t252).f1)) ∧ w'.cell? ⟨(ad256.add ((t252).toNat * 3)).block, (ad256.add ((t252).toNat * 3)).off + 2, none⟩ = some (.int .i64 ((rd_T41 t240 t252).f2))) (ds := []) #[false, false, false, false, false, false, false, false, false, false, false, false, false, false, false, false, false, false, false, false, false, false, false, false, false, false] (by kernel_rfl) rfl rfl ⟨hx256_0, hx256_1, hx256_2, hx257_0, hx257_1, hx257_2, hx258_0, hx258_1, hx258_2⟩ (fun hHeld => ?_); refine with_tabW corporalaw10_TreelabelHeads.tab16 corporalaw10_TreelabelHeads.bits16 (fun HT_ HW_ => ?_)
                   generalize wc.drew = w55 at HO_8 HO_13 HB hx256_0 hx256_1 hx256_2 hx257_0 hx257_1 hx257_2 hx258_0 hx258_1 hx258_2 hHeld ⊢
                   refine pw_ 0 106 HT_.out (h := ?_)
                   refine pw_ 1 107 HT_.out (h := ?_)
                   refine pw_ 2 108 HT_.out (h := ?_)
                   refine pw_ 3 109 HT_.out (h := ?_)
                   refine pw_ 4 110 HT_.out (h := ?_)
                   refine pw_ 5 111 HT_.out (h := ?_)
                   refine pw_ 7 113 HT_.out (h := ?_)
                   refine pw_ 8 114 HT_.out (h := ?_)
                   refine pw_ 9 115 HT_.out (h := ?_)
                   refine pw_ 10 116 HT_.out (h := ?_)
                   refine pw_ 13 119 HT_.out (h := ?_)
                   refine pw_ 14 120 HT_.out (h := ?_)
                   refine pw_ 15 121 HT_.out (h := ?_)
                   refine pw_ 16 122 HT_.out (h := ?_)
                   refine take_ (i := 6) (N := some 112) (v := ?_) (a' := ?_) #[true, true, true, true, true, true, true, true, true, true, true, false, false, true, true, true, true, false, false, false, false, false, false, false, false, false] rfl rfl (take_ofW HT_.out HW_.out (by kernel_rfl)) (fun _ _ _ h => h) (Or.inl ⟨by rfl, ?_⟩) hHeld ?_ ?_
                   rotate_left
                   ·rintro w' ⟨s0, s1, s2, s3, s4, s5, s6, s7, s8⟩
                    go_simp
                    with_reducible rfl
                   rotate_left
                   ·simp only [Act.put, List.setIfInBounds_toArray, List.set_cons_zero, List.set_cons_succ, i64_w, i32_w]
                    rfl
                   refine take_ (i := 11) (N := some 117) (v := ?_) (a' := ?_) #[true, true, true, true, true, true, true, true, true, true, true, true, false, true, true, true, true, false, false, false, false, false, false, false, false, false] rfl rfl (take_ofW HT_.out HW_.out (by kernel_rfl)) (fun _ _ _ h => h) (Or.inl ⟨by rfl, ?_⟩) hHeld ?_ ?_
                   rotate_left
                   ·rintro w' ⟨s0, s1, s2, s3, s4, s5, s6, s7, s8⟩
                    go_simp
                    with_reducible rfl
                   rotate_left
                   ·simp only [Act.put, List.setIfInBounds_toArray, List.set_cons_zero, List.set_cons_succ, i64_w, i32_w]
                    rfl
                   refine pw_ 12 118 HT_.out (h := ?_)
                   refine take_ (i := 17) (N := some 123) (v := ?_) (a' := ?_) #[true, true, true, true, true, true, true, true, true, true, true, true, true, true, true, true, true, true, false, false, false, false, false, false, false, false] rfl rfl (take_ofW HT_.out HW_.out (by kernel_rfl)) (fun _ _ _ h => h) (Or.inl ⟨by rfl, ?_⟩) hHeld ?_ ?_
                   rotate_left
                   ·rintro w' ⟨s0, s1, s2, s3, s4, s5, s6, s7, s8⟩
                    go_simp
                    with_reducible rfl
                   rotate_left
                   ·simp only [Act.put, List.setIfInBounds_toArray, List.set_cons_zero, List.set_cons_succ, i64_w, i32_w]
                    rfl
                   refine pw_ 18 124 HT_.out (h := ?_)
                   refine pw_ 19 125 HT_.out (h := ?_)
                   refine pw_ 20 126 HT_.out (h := ?_)
                   refine pw_ 21 127 HT_.out (h := ?_)
                   refine pw_ 22 128 HT_.out (h := ?_)
                   refine pn_ 23 129 HT_.out (h := ?_)
                   refine pw_ 24 130 HT_.out (h := ?_)
                   refine pw_ 25 6 HT_.out (h := ?_)
                   refine done_ (done_of HT_.out (by kernel_rfl)) ?_
                   try go_wp2
                   go_ret
                   exact ⟨by first | rfl | (simp [errW_none, errW_some] <;> rfl) | (simp [*, errW_none, errW_some] <;> rfl), by repeat (first | (with_reducible first | exact HB.out | apply below_alloc | apply pw_below_drewN | apply below_drew1) | exact HB.out)⟩
                 ·rw [if_neg c49] at H
                  exact absurd H (by simp)
                ·rw [if_neg c48] at H
                 exact absurd H (by simp)
               ·rw [if_neg c47] at H
                exact absurd H (by simp)
              ·rw [if_neg c46] at H
               exact absurd H (by simp)
             ·rw [if_neg c45] at H
              exact absurd H (by simp)
            ·rw [if_neg c44] at H
             exact absurd H (by simp)
       ·rw [if_neg c17] at H
        have c17b0 : (t242 == 0) = false := beq_eq_false_iff_ne.mpr c17
        have c17b1 : (t242 != 0) = true := bne_iff_ne.mpr c17
        replace H := Option.bind_eq_some_iff.mp H
        obtain ⟨t247, A570, H⟩ := H
        replace H : (some t247) = some r := H
        have A57 := Aside0.mk A570
        clear A570
        obtain rfl := Option.some.inj H
        go_wp2_with (first | ((with_reducible refine gate_callee (f := 14) rfl ?_); refine goesL_ (some 59) rfl rfl Try.func14 (by kernel_rfl) rfl #[] rfl (by (try simp only [List.map_toArray, List.map_cons, List.map_nil]); first | done | rfl | (simp only [List.length_drop, List.length_take]; rfl)) ?_; (with_reducible refine (corporalaw10_awake.calls kj11  t247 _ A57.out).mono ?_); rintro e w58 ⟨rfl, hb⟩; refine ⟨_, rfl, ?_⟩; have n0_ := Aside0.mk (Kd.R_below (by (with_reducible repeat (first | apply Kd.R_alloc | apply Kd.R_drewN | apply Kd.R_drew)); exact HO_8.out) hb); have n1_ := Aside0.mk (below_step (by repeat (first | (with_reducible first | exact HB.out | apply below_alloc | apply pw_below_drewN | apply below_drew1) | exact HB.out)) hb); clear HO_8; clear HB; have HO_8 := n0_; have HB := n1_; clear n0_ n1_; (try clear hb); (try clear hb2); (try clear hk); (try clear hi)))
        go_ret
        exact ⟨by first | rfl | (simp [errW_none, errW_some] <;> rfl) | (simp [*, errW_none, errW_some] <;> rfl), by repeat (first | (with_reducible first | exact HB.out | apply below_alloc | apply pw_below_drewN | apply below_drew1) | exact HB.out)⟩

/-- THE ONE PURE STATEMENT of corporalaw10_TreelabelHeads: yours. -/
def corporalaw10_TreelabelHeads.Pure : Prop := ∀ (l0 : List Int) (a1 : Int) (a2 : Int), l0.length ≤ maxLen → l0.length * 8 ≤ 140737488351232 → (∀ x ∈ l0, (Lit.int .i64 x).wf = true) → (Lit.int .i64 a1).wf = true → (Lit.int .i64 a2).wf = true → ∃ k, corporalaw10_TreelabelHeads.f k l0 a1 a2 = some true
theorem corporalaw10_TreelabelHeads.walk (P : corporalaw10_TreelabelHeads.Pure) (a0 : Option Addr) (len0 cap0 : Nat) (z0 : List Int) (a1 : Int) (a2 : Int) (w : World) (w0 : (a0 = none ∧ len0 = 0 ∧ cap0 = 0 ∧ z0 = []) ∨ ∃ x, a0 = some x ∧ len0 ≤ cap0 ∧ cap0 ≤ maxLen ∧ z0.length = cap0 ∧ (∀ i, i < z0.length → w.cell? (x.add i) = some (.int .i64 (z0.getD i 0))) ∧ ∀ n ∈ z0, (Lit.int .i64 n).wf = true) (y0 : len0 * 8 ≤ 140737488351232) (w1 : (Lit.int .i64 a1).wf = true) (w2 : (Lit.int .i64 a2).wf = true) :
  Calls Try.prog 10 #[.slice a0 len0 cap0, .int .i64 a1, .int .i64 a2] w fun e w' => e = .returned (.bool true) ∧ Below w.heap.size w w' := by
 obtain ⟨l0, rfl, hr0, hm0, hw0, hc0⟩ := ReadsInt.ofRowC w0
 obtain ⟨k, h⟩ := P l0 a1 a2 hm0 y0 hw0 w1 w2
 refine (corporalaw10_TreelabelHeads.calls k _ _ l0 a1 a2 true w (Kd.C_of_reads (d := (0 : Int)) (h1 := fun _ => rfl) hr0) hc0 h).mono ?_
 rintro e w' ⟨rfl, hd⟩
 exact ⟨rfl, hd⟩

end Go.Proofs.Ythjcmodhleoocaa.Q
/- Up -/
namespace Go.Proofs.Ythjcmodhleoocaa.TP

theorem pigeon : ∀ (n : Nat) (f : Nat → Nat), (∀ i, i ≤ n → f i < n) → ∃ i j, i < j ∧ j ≤ n ∧ f i = f j := by
  intro n
  induction n with
  | zero => intro f h; exact absurd (h 0 (Nat.le_refl _)) (Nat.not_lt_zero _)
  | succ n ih =>
    intro f h
    by_cases hx : ∃ i, i ≤ n ∧ f i = f (n + 1)
    · obtain ⟨i, hi, e⟩ := hx
      exact ⟨i, n + 1, by omega, Nat.le_refl _, e⟩
    · have hne : ∀ i, i ≤ n → f i ≠ f (n + 1) := fun i hi e => hx ⟨i, hi, e⟩
      obtain ⟨i, j, hij, hj, e⟩ := ih (fun i => if f i = n then f (n + 1) else f i) (fun i hi => by
        have h1 := h i (by omega)
        have h2 := h (n + 1) (Nat.le_refl _)
        have h3 := hne i hi
        show (if f i = n then f (n + 1) else f i) < n
        split <;> omega)
      refine ⟨i, j, hij, by omega, ?_⟩
      have h3 := hne i (by omega)
      have h4 := hne j hj
      split at e <;> split at e <;> omega

/-- Distinct members of a list that all lie in another: no more of them. -/
theorem inj_le (n m : Nat) (f : Nat → Nat) (hf : ∀ i, i < n → f i < m) (hi : ∀ i j, i < n → j < n → f i = f j → i = j) : n ≤ m := by
  rcases Nat.lt_or_ge m n with h | h
  · obtain ⟨i, j, hij, hj, e⟩ := pigeon m f (fun i hi' => hf i (by omega))
    have := hi i j (by omega) (by omega) e
    omega
  · exact h

/-- The element at an index. -/
def rdi (ps : List Int) (x : Int) : Int := ps.getD x.toNat 0
/-- One step up; what is no node stays. -/
def stp (ps : List Int) (x : Int) : Int := if x < 0 then x else rdi ps x
def up (ps : List Int) : Nat → Int → Int
  | 0, x => x
  | m + 1, x => up ps m (stp ps x)
theorem stp_neg {ps : List Int} {x : Int} (h : x < 0) : stp ps x = x := if_pos h
theorem stp_nn {ps : List Int} {x : Int} (h : 0 ≤ x) : stp ps x = rdi ps x := if_neg (by omega)
theorem up_succ (ps : List Int) (m : Nat) (x : Int) : up ps (m + 1) x = up ps m (stp ps x) := rfl
theorem up_out (ps : List Int) (m : Nat) : ∀ x, up ps (m + 1) x = stp ps (up ps m x) := by
  induction m with
  | zero => intro x; rfl
  | succ m ih => intro x; rw [up_succ, ih]; rfl
theorem up_add (ps : List Int) (a b : Nat) (x : Int) : up ps (a + b) x = up ps a (up ps b x) := by
  induction a generalizing b x with
  | zero => rw [Nat.zero_add]; rfl
  | succ a ih => rw [show a + 1 + b = a + (b + 1) from by omega, ih, up_out, up_succ]
theorem up_neg {ps : List Int} {x : Int} (m : Nat) (h : x < 0) : up ps m x = x := by
  induction m with
  | zero => rfl
  | succ m ih => rw [up_succ, stp_neg h, ih]
theorem up_nn_of {ps : List Int} {x : Int} {a b : Nat} (hab : a ≤ b) (h : 0 ≤ up ps b x) : 0 ≤ up ps a x := by
  rcases Int.lt_or_le (up ps a x) 0 with h1 | h1
  · have : up ps b x = up ps a x := by rw [show b = (b - a) + a from by omega, up_add, up_neg _ h1]
    omega
  · exact h1

/-- All parents are nodes or -1. -/
def InR (ps : List Int) : Prop := ∀ x : Int, 0 ≤ x → x < ps.length → -1 ≤ rdi ps x ∧ rdi ps x < ps.length
theorem up_range {ps : List Int} (h : InR ps) {x : Int} (hx : -1 ≤ x) (hx' : x < ps.length) (m : Nat) : -1 ≤ up ps m x ∧ up ps m x < ps.length := by
  induction m with
  | zero => exact ⟨hx, hx'⟩
  | succ m ih =>
    rw [up_out]
    rcases Int.lt_or_le (up ps m x) 0 with h1 | h1
    · rw [stp_neg h1]; exact ih
    · rw [stp_nn h1]; exact h _ h1 ih.2

/-- A node from which the parents lead back to it. -/
def Cyc (ps : List Int) (x : Int) : Prop := 0 ≤ x ∧ ∃ m, 0 < m ∧ up ps m x = x
theorem cyc_mul {ps : List Int} {x : Int} {m : Nat} (h : up ps m x = x) (c : Nat) : up ps (c * m) x = x := by
  induction c with
  | zero => rw [Nat.zero_mul]; rfl
  | succ c ih => rw [Nat.succ_mul, up_add, h, ih]
theorem cyc_up_nn {ps : List Int} {x : Int} (h : Cyc ps x) (i : Nat) : 0 ≤ up ps i x := by
  obtain ⟨hx, m, hm, e⟩ := h
  have h1 := cyc_mul e i
  refine up_nn_of (b := i * m) (Nat.le_mul_of_pos_right i hm) ?_
  rw [h1]; exact hx
theorem cyc_up {ps : List Int} {x : Int} (h : Cyc ps x) (i : Nat) : Cyc ps (up ps i x) := by
  refine ⟨cyc_up_nn h i, ?_⟩
  obtain ⟨_, m, hm, e⟩ := h
  exact ⟨m, hm, by rw [← up_add, Nat.add_comm, up_add, e]⟩
/-- On a cycle every later point leads back. -/
theorem cyc_back {ps : List Int} {x : Int} (h : Cyc ps x) (i : Nat) : ∃ j, up ps j (up ps i x) = x := by
  obtain ⟨_, m, hm, e⟩ := h
  have h1 := cyc_mul e i
  have h2 : i ≤ i * m := Nat.le_mul_of_pos_right i hm
  exact ⟨i * m - i, by rw [← up_add, Nat.sub_add_cancel h2, h1]⟩
theorem natAbs_lt {x : Int} {n : Nat} (h0 : 0 ≤ x) (h1 : x < n) : x.toNat < n := by omega
/-- A repetition within the first n steps. -/
theorem up_repeat {ps : List Int} (h : InR ps) {x : Int} (hx : x < ps.length) (hn : ∀ i, i ≤ ps.length → 0 ≤ up ps i x) : ∃ i j, i < j ∧ j ≤ ps.length ∧ up ps i x = up ps j x := by
  have h0 : -1 ≤ x := by have := hn 0 (Nat.zero_le _); simp only [up] at this; omega
  obtain ⟨i, j, hij, hj, e⟩ := pigeon ps.length (fun i => (up ps i x).toNat) (fun i hi => natAbs_lt (hn i hi) (up_range h h0 hx i).2)
  have hi' := hn i (by omega)
  have hj' := hn j hj
  exact ⟨i, j, hij, hj, by have e2 : (up ps i x).toNat = (up ps j x).toNat := e; omega⟩
/-- The way back is no longer than the list. -/
theorem cyc_short {ps : List Int} (h : InR ps) {x : Int} (hx : x < ps.length) (hc : Cyc ps x) : ∃ m, 0 < m ∧ m ≤ ps.length ∧ up ps m x = x := by
  obtain ⟨i, j, hij, hj, e⟩ := up_repeat h hx (fun i _ => cyc_up_nn hc i)
  obtain ⟨b, hb⟩ := cyc_back hc i
  refine ⟨j - i, by omega, by omega, ?_⟩
  have h1 : up ps (b + j) x = x := by rw [up_add, ← e, hb]
  have h2 : up ps (b + i) x = x := by rw [up_add, hb]
  have h3 : b + j = (j - i) + (b + i) := by omega
  rw [h3, up_add, h2] at h1
  exact h1
/-- No cycle: every way ends. -/
theorem ends_of {ps : List Int} (h : InR ps) (hc : ∀ x : Int, 0 ≤ x → x < ps.length → ¬ Cyc ps x) {x : Int} (hx0 : 0 ≤ x) (hx : x < ps.length) : ∃ m, m ≤ ps.length ∧ up ps m x < 0 := by
  by_cases hn : ∃ i, i ≤ ps.length ∧ up ps i x < 0
  · exact hn
  · exfalso
    obtain ⟨i, j, hij, hj, e⟩ := up_repeat h hx (fun i hi => by
      rcases Int.lt_or_le (up ps i x) 0 with h1 | h1
      · exact absurd ⟨i, hi, h1⟩ hn
      · exact h1)
    have h0 : 0 ≤ up ps i x := by
      rcases Int.lt_or_le (up ps i x) 0 with h1 | h1
      · exact absurd ⟨i, by omega, h1⟩ hn
      · exact h1
    refine hc _ h0 (up_range h (by omega) hx i).2 ⟨h0, j - i, by omega, ?_⟩
    rw [← up_add, Nat.sub_add_cancel (by omega)]
    exact e.symm
end Go.Proofs.Ythjcmodhleoocaa.TP
/- TSpec -/
namespace Go.Proofs.Ythjcmodhleoocaa.TP

/-- Node x is y or an ancestor of y. -/
def Sub (ps : List Int) (x y : Nat) : Prop := ∃ m, up ps m (y : Int) = (x : Int)
theorem Sub.refl (ps : List Int) (x : Nat) : Sub ps x x := ⟨0, rfl⟩
theorem Sub.trans {ps : List Int} {x y z : Nat} (h : Sub ps x y) (k : Sub ps y z) : Sub ps x z := by
  obtain ⟨a, ha⟩ := h
  obtain ⟨b, hb⟩ := k
  exact ⟨a + b, by rw [up_add, hb, ha]⟩
/-- A forest: parents in range, no cycle. -/
structure Forest (ps : List Int) : Prop where
  rng : InR ps
  nc : ∀ j : Int, 0 ≤ j → j < ps.length → ¬ Cyc ps j
theorem rdi_nat (ps : List Int) (c : Nat) : rdi ps (c : Int) = ps.getD c 0 := by unfold rdi; rw [Int.toNat_natCast]
theorem mem_kd {ps : List Int} {i c : Nat} : c ∈ kd ps i ↔ c < ps.length ∧ rdi ps (c : Int) = (i : Int) := by unfold kd; rw [mem_kidsOf, rdi_nat]
theorem mem_kids {ps : List Int} {p : Int} {c : Nat} : c ∈ kidsOf ps p ↔ c < ps.length ∧ rdi ps (c : Int) = p := by rw [mem_kidsOf, rdi_nat]
theorem kidsFrom_nodup (ps : List Int) (p : Int) (j : Nat) : (kidsFrom ps p j).Nodup := by
  unfold kidsFrom
  exact List.Pairwise.filter _ (List.nodup_range')
theorem kidsOf_nodup (ps : List Int) (p : Int) : (kidsOf ps p).Nodup := kidsFrom_nodup ps p 0

theorem no_loop {ps : List Int} (hf : Forest ps) {x : Nat} (hx : x < ps.length) {m : Nat} (hm : 0 < m) : up ps m (x : Int) ≠ (x : Int) := fun e =>
  hf.nc x (by omega) (by omega) ⟨by omega, m, hm, e⟩
theorem Sub.anti {ps : List Int} (hf : Forest ps) {x y : Nat} (hx : x < ps.length) (h : Sub ps x y) (k : Sub ps y x) : x = y := by
  obtain ⟨a, ha⟩ := h
  obtain ⟨b, hb⟩ := k
  rcases Nat.eq_zero_or_pos (a + b) with h0 | h0
  · obtain rfl : a = 0 := by omega
    have : (y : Int) = (x : Int) := ha
    omega
  · exact absurd (show up ps (a + b) (x : Int) = x by rw [up_add, hb, ha]) (no_loop hf hx h0)
/-- Siblings (or roots) have no common descendant. -/
theorem sib_disj {ps : List Int} (hf : Forest ps) {p : Int} {c c' x : Nat} (hp : p < ps.length) (hc : rdi ps (c : Int) = p) (hc' : rdi ps (c' : Int) = p) (h : Sub ps c x) (h' : Sub ps c' x) : c = c' := by
  have key : ∀ (c c' : Nat) (a b : Nat), rdi ps (c : Int) = p → rdi ps (c' : Int) = p → up ps a (x : Int) = c → up ps b (x : Int) = c' → a < b → False := by
    intro c c' a b hc hc' ha hb hab
    obtain ⟨e, rfl⟩ : ∃ e, b = (e + 1) + a := ⟨b - a - 1, by omega⟩
    rw [up_add, ha, up_succ, stp_nn (by omega), hc] at hb
    rcases Int.lt_or_le p 0 with h1 | h1
    · rw [up_neg _ h1] at hb; omega
    · have h2 : up ps (e + 1) p = p := by rw [up_out, hb, stp_nn (by omega), hc']
      exact hf.nc p h1 hp ⟨h1, e + 1, by omega, h2⟩
  obtain ⟨a, ha⟩ := h
  obtain ⟨b, hb⟩ := h'
  rcases Nat.lt_trichotomy a b with h | h | h
  · exact (key c c' a b hc hc' ha hb h).elim
  · subst h; rw [ha] at hb; omega
  · exact (key c' c b a hc' hc hb ha h).elim
/-- A node's tree: itself, and its children's trees. -/
theorem sub_kids {ps : List Int} (hf : Forest ps) {i x : Nat} (hx : x < ps.length) : Sub ps i x ↔ x = i ∨ ∃ c, c ∈ kd ps i ∧ Sub ps c x := by
  constructor
  · rintro ⟨m, hm⟩
    cases m with
    | zero => left; have : (x : Int) = (i : Int) := hm; omega
    | succ m =>
      right
      rw [up_out] at hm
      have h0 : 0 ≤ up ps m (x : Int) := by
        rcases Int.lt_or_le (up ps m (x : Int)) 0 with h | h
        · rw [stp_neg h] at hm; omega
        · exact h
      have h1 := (up_range hf.rng (by omega) (by omega : (x : Int) < ps.length) m).2
      rw [stp_nn h0] at hm
      exact ⟨(up ps m (x : Int)).toNat, mem_kd.2 ⟨by omega, by rw [Int.toNat_of_nonneg h0]; exact hm⟩, m, (Int.toNat_of_nonneg h0).symm⟩
  · rintro (rfl | ⟨c, hc, m, hm⟩)
    · exact Sub.refl _ _
    · exact ⟨m + 1, by rw [up_out, hm, stp_nn (by omega)]; exact (mem_kd.1 hc).2⟩
theorem kid_not_sub {ps : List Int} (hf : Forest ps) {i c : Nat} (hi : i < ps.length) (hc : c ∈ kd ps i) : ¬ Sub ps c i := by
  rintro ⟨m, hm⟩
  refine no_loop hf hi (m := m + 1) (by omega) ?_
  rw [up_out, hm, stp_nn (by omega)]
  exact (mem_kd.1 hc).2

/-- How two different nodes' labels stand to each other. -/
def Ord (ps : List Int) (L : List Lab) (x y : Nat) : Prop := ∃ lx ly, L[x]? = some lx ∧ L[y]? = some ly ∧
  ((Sub ps x y ∧ lx.pre < ly.pre ∧ ly.post < lx.post) ∨ (Sub ps y x ∧ ly.pre < lx.pre ∧ lx.post < ly.post) ∨
    (¬ Sub ps x y ∧ ¬ Sub ps y x ∧ ((lx.pre < ly.pre ∧ lx.post < ly.post) ∨ (ly.pre < lx.pre ∧ ly.post < lx.post))))
theorem Ord.symm {ps : List Int} {L : List Lab} {x y : Nat} (h : Ord ps L x y) : Ord ps L y x := by
  obtain ⟨lx, ly, h1, h2, h3⟩ := h
  refine ⟨ly, lx, h2, h1, ?_⟩
  rcases h3 with h | h | ⟨a, b, c⟩
  · exact .inr (.inl h)
  · exact .inl h
  · exact .inr (.inr ⟨b, a, c.symm⟩)

/-- What has been numbered: the nodes of T, by numbers from s on. -/
structure Res (ps : List Int) (T : Nat → Prop) (dp : Nat → Nat → Prop) (s t : NS) : Prop where
  len : t.L.length = s.L.length
  up : Up s t
  out : ∀ x, ¬ T x → t.L[x]? = s.L[x]?
  ins : ∀ x, x < ps.length → T x → ∃ l, t.L[x]? = some l ∧ s.pre ≤ l.pre ∧ l.pre < t.pre ∧ s.post ≤ l.post ∧ l.post < t.post ∧ dp x l.dep
  ord : ∀ x y, x < ps.length → y < ps.length → T x → T y → x ≠ y → Ord ps t.L x y
  onto : ∀ v, s.pre ≤ v → v < t.pre → ∃ x, x < ps.length ∧ T x ∧ ∃ l, t.L[x]? = some l ∧ l.pre = v

/-- Depths: d levels above the trees of cs. -/
def DpL (ps : List Int) (cs : List Nat) (d : Nat) (x : Nat) (e : Nat) : Prop := ∃ c, c ∈ cs ∧ ∃ m, up ps m (x : Int) = (c : Int) ∧ e = d + m
def TL (ps : List Int) (cs : List Nat) (x : Nat) : Prop := ∃ c, c ∈ cs ∧ Sub ps c x

theorem res_nil (ps : List Int) (d : Nat) (s : NS) : Res ps (TL ps []) (DpL ps [] d) s s :=
  ⟨rfl, Up.refl s, fun _ _ => rfl, fun x _ ⟨c, hc, _⟩ => (by cases hc), fun x y _ _ ⟨c, hc, _⟩ => (by cases hc), fun v h1 h2 => by omega⟩

theorem res_cons {ps : List Int} (hf : Forest ps) {p : Int} (hp : p < ps.length) {c : Nat} {cs : List Nat} {d : Nat} {s m t : NS} (hc : rdi ps (c : Int) = p) (hcs : ∀ c' ∈ cs, rdi ps (c' : Int) = p) (hnd : c ∉ cs)
    (h1 : Res ps (TL ps [c]) (DpL ps [c] d) s m) (h2 : Res ps (TL ps cs) (DpL ps cs d) m t) : Res ps (TL ps (c :: cs)) (DpL ps (c :: cs) d) s t := by
  have hdis : ∀ x, Sub ps c x → ¬ TL ps cs x := by
    rintro x hx ⟨c', hc', hx'⟩
    have := sib_disj hf hp hc (hcs c' hc') hx hx'
    subst this
    exact hnd hc'
  have hone : ∀ x, TL ps [c] x ↔ Sub ps c x := fun x => ⟨fun ⟨c', h, h'⟩ => by rw [List.mem_singleton.1 h] at h'; exact h', fun h => ⟨c, List.mem_singleton.2 rfl, h⟩⟩
  have hsplit : ∀ x, TL ps (c :: cs) x ↔ Sub ps c x ∨ TL ps cs x := by
    intro x
    constructor
    · rintro ⟨c', h, h'⟩
      rcases List.mem_cons.1 h with rfl | h
      · exact .inl h'
      · exact .inr ⟨c', h, h'⟩
    · rintro (h | ⟨c', h, h'⟩)
      · exact ⟨c, List.mem_cons_self, h⟩
      · exact ⟨c', List.mem_cons_of_mem _ h, h'⟩
  have hkeep : ∀ x, Sub ps c x → t.L[x]? = m.L[x]? := fun x hx => h2.out x (hdis x hx)
  have u1 := h1.up; have u2 := h2.up
  refine ⟨h2.len.trans h1.len, u1.trans u2, fun x hx => ?_, fun x hx ht => ?_, fun x y hx hy hTx hTy hne => ?_, fun v hv hv' => ?_⟩
  · rw [hsplit] at hx
    rw [h2.out x (fun h => hx (.inr h)), h1.out x (fun h => hx (.inl ((hone x).1 h)))]
  · rw [hsplit] at ht
    rcases ht with h | h
    · obtain ⟨l, a, b, c', e, f, c2, hc2, k, hk, hkd⟩ := h1.ins x hx ((hone x).2 h)
      refine ⟨l, (hkeep x h).trans a, b, by have := u2.2.1; omega, e, by have := u2.2.2.1; omega, c2, ?_, k, hk, hkd⟩
      rw [List.mem_singleton.1 hc2]; exact List.mem_cons_self
    · obtain ⟨l, a, b, c', e, f, c2, hc2, k, hk, hkd⟩ := h2.ins x hx h
      exact ⟨l, a, by have := u1.2.1; omega, c', by have := u1.2.2.1; omega, f, c2, List.mem_cons_of_mem _ hc2, k, hk, hkd⟩
  · rw [hsplit] at hTx hTy
    have mixed : ∀ x y, x < ps.length → y < ps.length → Sub ps c x → TL ps cs y → Ord ps t.L x y := by
      intro x y hx hy h h'
      obtain ⟨lx, a, b, c', e, f, _⟩ := h1.ins x hx ((hone x).2 h)
      obtain ⟨ly, a', b', c'', e', f', _⟩ := h2.ins y hy h'
      refine ⟨lx, ly, (hkeep x h).trans a, a', .inr (.inr ⟨fun hs => hdis y (h.trans hs) h', fun hs => ?_, .inl ⟨by omega, by omega⟩⟩)⟩
      obtain ⟨c2, hc2, hy2⟩ := h'
      exact hdis x h ⟨c2, hc2, hy2.trans hs⟩
    rcases hTx with h | h <;> rcases hTy with h' | h'
    · obtain ⟨lx, ly, a, b, e⟩ := h1.ord x y hx hy ((hone x).2 h) ((hone y).2 h') hne
      exact ⟨lx, ly, (hkeep x h).trans a, (hkeep y h').trans b, e⟩
    · exact mixed x y hx hy h h'
    · exact (mixed y x hy hx h' h).symm
    · exact h2.ord x y hx hy h h' hne
  · rcases Nat.lt_or_ge v m.pre with h | h
    · obtain ⟨x, a, b, l, e, f⟩ := h1.onto v hv h
      exact ⟨x, a, (hsplit x).2 (.inl ((hone x).1 b)), l, (hkeep x ((hone x).1 b)).trans e, f⟩
    · obtain ⟨x, a, b, l, e, f⟩ := h2.onto v h hv'
      exact ⟨x, a, (hsplit x).2 (.inr b), l, e, f⟩

theorem res_node {ps : List Int} (hf : Forest ps) {i d : Nat} (hi : i < ps.length) {s m : NS} (hl : s.L.length = ps.length) (h : Res ps (TL ps (kd ps i)) (DpL ps (kd ps i) (d + 1)) (enter i d s) m) :
    Res ps (TL ps [i]) (DpL ps [i] d) s (leave i m) := by
  have hone : ∀ x, TL ps [i] x ↔ Sub ps i x := fun x => ⟨fun ⟨c', h, h'⟩ => by rw [List.mem_singleton.1 h] at h'; exact h', fun h => ⟨i, List.mem_singleton.2 rfl, h⟩⟩
  have hni : ¬ TL ps (kd ps i) i := by
    rintro ⟨c, hc, hs⟩
    exact kid_not_sub hf hi hc hs
  have hu := h.up
  have e1 : (enter i d s).pre = s.pre + 1 := rfl
  have e2 : (enter i d s).post = s.post := rfl
  have e3 : (leave i m).pre = m.pre := rfl
  have e4 : (leave i m).post = m.post + 1 := rfl
  obtain ⟨x0, hx0⟩ : ∃ x0, s.L[i]? = some x0 := ⟨_, List.getElem?_eq_getElem (by omega)⟩
  have hLi : (leave i m).L[i]? = some { pre := s.pre, post := m.post, dep := d } := by
    have h1 := h.out i hni
    have h2 : (enter i d s).L[i]? = some { x0 with pre := s.pre, dep := d } := by simp [enter, hx0]
    rw [h2] at h1
    simp [leave, h1]
  have hLo : ∀ x, x ≠ i → (leave i m).L[x]? = m.L[x]? := fun x hx => by simp [leave, Ne.symm hx]
  have hEo : ∀ x, x ≠ i → (enter i d s).L[x]? = s.L[x]? := fun x hx => by simp [enter, Ne.symm hx]
  have hcase : ∀ x, x < ps.length → Sub ps i x → x = i ∨ (x ≠ i ∧ TL ps (kd ps i) x) := by
    intro x hx hs
    by_cases e : x = i
    · exact .inl e
    · rcases (sub_kids hf hx).1 hs with e' | h'
      · exact absurd e' e
      · exact .inr ⟨e, h'⟩
  have hup : Up s (leave i m) := by
    obtain ⟨a, b, c, e⟩ := hu
    refine ⟨by rw [leave_len, a, enter_len], by rw [e3]; omega, by rw [e4]; omega, by rw [e3, e4]; omega⟩
  refine ⟨hup.1, hup, fun x hx => ?_, fun x hx ht => ?_, fun x y hx hy hTx hTy hne => ?_, fun v hv hv' => ?_⟩
  · rw [hone] at hx
    have hxi : x ≠ i := fun e => hx (e ▸ Sub.refl ps x)
    have hxk : ¬ TL ps (kd ps i) x := by
      rintro ⟨c, hc, k, hk⟩
      exact hx ⟨k + 1, by rw [up_out, hk, stp_nn (by omega)]; exact (mem_kd.1 hc).2⟩
    rw [hLo x hxi, h.out x hxk, hEo x hxi]
  · rcases hcase x hx ((hone x).1 ht) with rfl | ⟨hxi, hk⟩
    · have := hu.2.1; have := hu.2.2.1
      exact ⟨_, hLi, Nat.le_refl _, by rw [e3]; show s.pre < m.pre; omega, by show s.post ≤ m.post; omega, by rw [e4]; show m.post < m.post + 1; omega, x, List.mem_singleton.2 rfl, 0, rfl, rfl⟩
    · obtain ⟨l, a, b, c', e, f, c2, hc2, k, hk, hkd⟩ := h.ins x hx hk
      refine ⟨l, (hLo x hxi).trans a, by omega, by rw [e3]; exact c', by omega, by rw [e4]; omega, i, List.mem_singleton.2 rfl, k + 1, ?_, by omega⟩
      rw [up_out, hk, stp_nn (by omega)]; exact (mem_kd.1 hc2).2
  · have one : ∀ y, y < ps.length → y ≠ i → TL ps (kd ps i) y → Ord ps (leave i m).L i y := by
      intro y hy hyi hk
      obtain ⟨l, a, b, c', e, f, _⟩ := h.ins y hy hk
      obtain ⟨c, hc, k, hk2⟩ := hk
      exact ⟨_, l, hLi, (hLo y hyi).trans a, .inl ⟨⟨k + 1, by rw [up_out, hk2, stp_nn (by omega)]; exact (mem_kd.1 hc).2⟩, by show s.pre < l.pre; omega, f⟩⟩
    rcases hcase x hx ((hone x).1 hTx) with rfl | ⟨hxi, hk⟩ <;> rcases hcase y hy ((hone y).1 hTy) with rfl | ⟨hyi, hk'⟩
    · exact absurd rfl hne
    · exact one y hy hyi hk'
    · exact (one x hx hxi hk).symm
    · obtain ⟨lx, ly, a, b, e⟩ := h.ord x y hx hy hk hk' hne
      exact ⟨lx, ly, (hLo x hxi).trans a, (hLo y hyi).trans b, e⟩
  · rcases Nat.lt_or_ge s.pre v with h1 | h1
    · obtain ⟨x, a, b, l, e, f⟩ := h.onto v (by omega) (by rw [e3] at hv'; exact hv')
      have hxi : x ≠ i := fun e' => hni (e' ▸ b)
      obtain ⟨c, hc, k, hk2⟩ := b
      exact ⟨x, a, (hone x).2 ⟨k + 1, by rw [up_out, hk2, stp_nn (by omega)]; exact (mem_kd.1 hc).2⟩, l, (hLo x hxi).trans e, f⟩
    · exact ⟨i, hi, (hone i).2 (Sub.refl _ _), _, hLi, by show s.pre = v; omega⟩

/-- How deep a node lies. -/
def HasD (ps : List Int) (x : Int) (d : Nat) : Prop := 0 ≤ up ps d x ∧ up ps (d + 1) x < 0
theorem HasD.uniq {ps : List Int} {x : Int} {a b : Nat} (h : HasD ps x a) (k : HasD ps x b) : a = b := by
  rcases Nat.lt_trichotomy a b with h1 | h1 | h1
  · have := up_nn_of (show a + 1 ≤ b by omega) k.1; have := h.2; omega
  · exact h1
  · have := up_nn_of (show b + 1 ≤ a by omega) h.1; have := k.2; omega
theorem hasD_ex {ps : List Int} (hf : Forest ps) {x : Int} (hx0 : 0 ≤ x) (hx : x < ps.length) : ∃ d, d < ps.length ∧ HasD ps x d := by
  obtain ⟨m, hm, hneg⟩ := ends_of hf.rng hf.nc hx0 hx
  have key : ∀ m, up ps m x < 0 → ∃ d, d < m ∧ HasD ps x d := by
    intro m
    induction m with
    | zero => intro h; have : x < 0 := h; omega
    | succ m ih =>
      intro h
      rcases Int.lt_or_le (up ps m x) 0 with h1 | h1
      · obtain ⟨d, hd, h2⟩ := ih h1; exact ⟨d, by omega, h2⟩
      · exact ⟨m, by omega, h1, h⟩
  obtain ⟨d, hd, h2⟩ := key m hneg
  exact ⟨d, by omega, h2⟩
theorem HasD.kid {ps : List Int} {c : Nat} {i : Int} {d : Nat} (hc : rdi ps (c : Int) = i) (h : HasD ps i d) : HasD ps (c : Int) (d + 1) := by
  have e : stp ps (c : Int) = i := by rw [stp_nn (by omega)]; exact hc
  exact ⟨by rw [up_succ, e]; exact h.1, by rw [up_succ, e]; exact h.2⟩

/-- The numbering of a node's tree ends, and does what it should: enough levels are n less the node's depth. -/
theorem vis_res {ps : List Int} (hf : Forest ps) (k : Nat) : ∀ (i d D : Nat) (s : NS), i < ps.length → HasD ps (i : Int) D → ps.length ≤ D + k → s.L.length = ps.length →
    ∃ t, vis (kd ps) k i d s = some t ∧ Res ps (TL ps [i]) (DpL ps [i] d) s t := by
  induction k with
  | zero =>
    intro i d D s hi hD hk
    obtain ⟨d', hd', h'⟩ := hasD_ex hf (x := (i : Int)) (by omega) (by omega)
    have := hD.uniq h'
    omega
  | succ k ih =>
    intro i d D s hi hD hk hl
    have fold : ∀ (cs : List Nat), cs.Nodup → (∀ c ∈ cs, c ∈ kd ps i) → ∀ (s : NS), s.L.length = ps.length → ∃ t, cs.foldlM (fun s c => vis (kd ps) k c (d + 1) s) s = some t ∧ Res ps (TL ps cs) (DpL ps cs (d + 1)) s t := by
      intro cs
      induction cs with
      | nil => intro _ _ s _; exact ⟨s, rfl, res_nil ps (d + 1) s⟩
      | cons c cs ihc =>
        intro hnd hall s hl
        obtain ⟨hn1, hn2⟩ := List.nodup_cons.1 hnd
        have hck := mem_kd.1 (hall c List.mem_cons_self)
        obtain ⟨m, hm, hr⟩ := ih c (d + 1) (D + 1) s hck.1 (hD.kid hck.2) (by omega) hl
        obtain ⟨t, ht, hr2⟩ := ihc hn2 (fun c' h' => hall c' (List.mem_cons_of_mem _ h')) m (hr.len.trans hl)
        refine ⟨t, ?_, res_cons hf (p := (i : Int)) (by omega) hck.2 (fun c' h' => (mem_kd.1 (hall c' (List.mem_cons_of_mem _ h'))).2) hn1 hr hr2⟩
        rw [List.foldlM_cons, hm]
        exact ht
    obtain ⟨m, hm, hr⟩ := fold (kd ps i) (kidsOf_nodup _ _) (fun c h => h) (enter i d s) (by rw [enter_len]; exact hl)
    refine ⟨leave i m, ?_, res_node hf hi hl hr⟩
    rw [vis, if_pos (by omega), hm]
    rfl
theorem visL_res {ps : List Int} (hf : Forest ps) (k : Nat) (hk : ps.length ≤ k) : ∀ (cs : List Nat), cs.Nodup → (∀ c ∈ cs, c ∈ kidsOf ps (-1)) → ∀ (s : NS), s.L.length = ps.length →
    ∃ t, visL ps k cs 0 s = some t ∧ Res ps (TL ps cs) (DpL ps cs 0) s t := by
  intro cs
  induction cs with
  | nil => intro _ _ s _; exact ⟨s, rfl, res_nil ps 0 s⟩
  | cons c cs ihc =>
    intro hnd hall s hl
    obtain ⟨hn1, hn2⟩ := List.nodup_cons.1 hnd
    have hck := mem_kids.1 (hall c List.mem_cons_self)
    have hD : HasD ps (c : Int) 0 := ⟨by show (0 : Int) ≤ (c : Int); omega, by
      show stp ps (c : Int) < 0
      rw [stp_nn (by omega), hck.2]; omega⟩
    obtain ⟨m, hm, hr⟩ := vis_res hf k c 0 0 s hck.1 hD (by omega) hl
    obtain ⟨t, ht, hr2⟩ := ihc hn2 (fun c' h' => hall c' (List.mem_cons_of_mem _ h')) m (hr.len.trans hl)
    refine ⟨t, ?_, res_cons hf (p := -1) (by omega) hck.2 (fun c' h' => (mem_kids.1 (hall c' (List.mem_cons_of_mem _ h'))).2) hn1 hr hr2⟩
    rw [visL_cons, hm]
    exact ht

/-- The labels of a forest. -/
structure LabOf (ps : List Int) (L : List Lab) : Prop where
  len : L.length = ps.length
  dep : ∀ (x : Nat) (l : Lab), L[x]? = some l → HasD ps (x : Int) l.dep
  rng : ∀ (x : Nat) (l : Lab), L[x]? = some l → l.pre < ps.length ∧ l.post < ps.length
  ord : ∀ x y, x < ps.length → y < ps.length → x ≠ y → Ord ps L x y
  onto : ∀ v, v < ps.length → ∃ (x : Nat) (l : Lab), L[x]? = some l ∧ l.pre = v
theorem root_of {ps : List Int} (hf : Forest ps) {x : Nat} (hx : x < ps.length) : TL ps (kidsOf ps (-1)) x := by
  obtain ⟨d, hd, h1, h2⟩ := hasD_ex hf (x := (x : Int)) (by omega) (by omega)
  have hr := up_range hf.rng (by omega) (by omega : (x : Int) < ps.length) d
  have hr2 := up_range hf.rng (by omega) (by omega : (x : Int) < ps.length) (d + 1)
  rw [up_out, stp_nn h1] at h2 hr2
  exact ⟨(up ps d (x : Int)).toNat, mem_kids.2 ⟨by omega, by rw [Int.toNat_of_nonneg h1]; omega⟩, d, (Int.toNat_of_nonneg h1).symm⟩
/-- The numbering of a forest ends with its labels. -/
theorem num_res {ps : List Int} (hf : Forest ps) (k : Nat) (hk : ps.length ≤ k) : ∃ t, visL ps k (kidsOf ps (-1)) 0 ⟨List.replicate ps.length ⟨0, 0, 0⟩, 0, 0⟩ = some t ∧ t.pre = ps.length ∧ t.post = ps.length ∧ LabOf ps t.L := by
  obtain ⟨t, ht, hr⟩ := visL_res hf k hk (kidsOf ps (-1)) (kidsOf_nodup _ _) (fun c h => h) ⟨List.replicate ps.length ⟨0, 0, 0⟩, 0, 0⟩ (by rw [List.length_replicate])
  have hlen : t.L.length = ps.length := by rw [hr.len, List.length_replicate]
  have hin : ∀ x, x < ps.length → ∃ l, t.L[x]? = some l ∧ l.pre < t.pre ∧ l.post < t.post ∧ DpL ps (kidsOf ps (-1)) 0 x l.dep := fun x hx => by
    obtain ⟨l, a, _, b, _, c, e⟩ := hr.ins x hx (root_of hf hx)
    exact ⟨l, a, b, c, e⟩
  have hup := hr.up
  have hpp : t.pre = t.post := by have := hup.2.2.2; simp only at this; omega
  have h1 : ps.length ≤ t.pre := by
    refine inj_le ps.length t.pre (fun x => ((t.L[x]?).getD ⟨0, 0, 0⟩).pre) (fun x hx => ?_) (fun x y hx hy e => ?_)
    · obtain ⟨l, a, b, _⟩ := hin x hx
      show ((t.L[x]?).getD ⟨0, 0, 0⟩).pre < t.pre
      rw [a]; exact b
    · by_cases hxy : x = y
      · exact hxy
      · exfalso
        obtain ⟨lx, ly, a, b, c⟩ := hr.ord x y hx hy (root_of hf hx) (root_of hf hy) hxy
        have e' : ((t.L[x]?).getD ⟨0, 0, 0⟩).pre = ((t.L[y]?).getD ⟨0, 0, 0⟩).pre := e
        rw [a, b] at e'
        have e2 : lx.pre = ly.pre := e'
        omega
  have h2 : t.pre ≤ ps.length := by
    have hex : ∀ v, ∃ x, v < t.pre → x < ps.length ∧ ∃ l, t.L[x]? = some l ∧ l.pre = v := fun v => by
      by_cases hv : v < t.pre
      · obtain ⟨x, a, _, l, b, c⟩ := hr.onto v (Nat.zero_le _) hv
        exact ⟨x, fun _ => ⟨a, l, b, c⟩⟩
      · exact ⟨0, fun h => absurd h hv⟩
    refine inj_le t.pre ps.length (fun v => Classical.choose (hex v)) (fun v hv => (Classical.choose_spec (hex v) hv).1) (fun v w hv hw e => ?_)
    obtain ⟨_, l, a, b⟩ := Classical.choose_spec (hex v) hv
    obtain ⟨_, l', a', b'⟩ := Classical.choose_spec (hex w) hw
    have e' : Classical.choose (hex v) = Classical.choose (hex w) := e
    rw [e'] at a
    rw [a] at a'
    have : l = l' := Option.some.inj a'
    rw [← b, ← b', this]
  have h3 : t.pre = ps.length := by omega
  refine ⟨t, ht, h3, by omega, hlen, fun x l hl => ?_, fun x l hl => ?_, fun x y hx hy hne => hr.ord x y hx hy (root_of hf hx) (root_of hf hy) hne, fun v hv => ?_⟩
  · have hx : x < ps.length := by have := (List.getElem?_eq_some_iff.1 hl).1; omega
    obtain ⟨l', a, _, _, c, hc, m, hm, e⟩ := hin x hx
    rw [hl] at a
    obtain rfl := Option.some.inj a
    have hck := mem_kids.1 hc
    rw [Nat.zero_add] at e
    rw [e]
    exact ⟨by rw [hm]; omega, by rw [up_out, hm, stp_nn (by omega), hck.2]; omega⟩
  · have hx : x < ps.length := by have := (List.getElem?_eq_some_iff.1 hl).1; omega
    obtain ⟨l', a, b, c, _⟩ := hin x hx
    rw [hl] at a
    obtain rfl := Option.some.inj a
    omega
  · obtain ⟨x, _, _, l, b, c⟩ := hr.onto v (Nat.zero_le _) (by omega)
    exact ⟨x, l, b, c⟩
end Go.Proofs.Ythjcmodhleoocaa.TP
/- Walk -/
namespace Go.Proofs.Ythjcmodhleoocaa.Q
open Go.RowKit Go.Proofs.YthjcmodhleoocaaW.PrintWords Go.Proofs.YthjcmodhleoocaaW.PrintLast Go.Proofs.YthjcmodhleoocaaW.PrintMore
open Go.Proofs.Ythjcmodhleoocaa.TP
theorem add_block (ad : Addr) (j : Nat) : (ad.add j).block = ad.block := by unfold Addr.add; split <;> rfl
set_option maxRecDepth 100000 in
set_option maxHeartbeats 4000000 in
theorem walk_calls {W0 : World} {g gl n cap cp : Nat} {Ap : Option Addr} {ps : List Int} (hn : ps.length = n) (hn' : n ≤ 1000000)
    (hps : 0 < n → ∃ ad, Ap = some ad ∧ ad.block ≠ g ∧ ad.block ≠ gl ∧ ∀ j, j < n → W0.cell? (ad.add j) = some (.int .i64 (ps.getD j 0))) (k : Nat) :
    ∀ (d : Nat) (p y : Int) (s t : NS) (W : World), y = d → visL ps k (kidsOf ps p) d s = some t → s.L.length = n → t.pre ≤ 1000000 → t.post ≤ 1000000 → d + k ≤ 1000000 →
    VS 61 43 (.slice Ap n cp) g gl n cap W0 W s →
    Calls Try.prog 34 #[.pointer (some ⟨g, 0, none⟩), .int .i64 p, .int .i64 y] W fun e w' => e = .returned (.tuple #[]) ∧ VS 61 43 (.slice Ap n cp) g gl n cap W0 w' t := by
  induction k using Nat.strongRecOn with
  | _ k ih =>
    intro d p y s t W hy h hL hp hq hd hV
    subst hy
    have HF := Aside0.mk h
    have HN := Aside0.mk hn
    have HPS := Aside0.mk hps
    have HIH := Aside0.mk ih
    have HLs := Aside0.mk hL
    have HV := Aside0.mk hV
    have c0 := hV.cell 0
    have hu61 := Try.underlying61
    have hu43 := Try.underlying43
    simp at c0
    clear h hn hps ih hL hV
    go_enter Try.func34, Try.ntmps34
    go_wp2
    go_loopg [13] n (fun kq v13 wr => ∃ (j : Nat) (sj : NS), v13 = .int .i64 (j : Int) ∧ j ≤ n ∧ Aside0 (kq + j = n) ∧ Aside0 (visL ps k (kidsFrom ps p j) d sj = some t) ∧ Aside0 (sj.L.length = n) ∧ Aside0 (VS 61 43 (.slice Ap n cp) g gl n cap W0 wr sj))
    case atStart => exact ⟨0, s, rfl, Nat.zero_le _, ⟨rfl⟩, HF, HLs, HV⟩
    case round =>
      clear HV c0
      obtain ⟨j, sj, rfl, hj, HK, HFj, HLj, HVj⟩ := hrel
      by_cases hlt : j < n
      · obtain ⟨ad, rfl, hag, hal, hac⟩ := HPS.out (by omega)
        have hcell : wr.cell? (ad.add j) = some (.int .i64 (ps.getD j 0)) := (HVj.out.far hag hal (add_block ad j)).trans (hac j hlt)
        clear hac
        by_cases hhit : ps.getD j 0 = p
        · have hfj := HFj.out
          rw [kidsFrom_hit ps p j (by rw [HN.out]; exact hlt) hhit, visL_cons] at hfj
          cases hv : vis (kd ps) k j d sj with
          | none => rw [hv] at hfj; cases hfj
          | some m =>
          rw [hv] at hfj
          obtain ⟨k', rfl⟩ : ∃ k', k = k' + 1 := by
            cases k with
            | zero => cases hv
            | succ k' => exact ⟨k', rfl⟩
          have hup := vis_up _ _ _ _ _ hv
          have hup' := visL_up _ _ _ hfj
          rw [vis_succ, if_pos (by rw [HLj.out]; exact hlt)] at hv
          cases hw : visL ps k' (kd ps j) (d + 1) (enter j d sj) with
          | none => rw [hw] at hv; cases hv
          | some m1 =>
          rw [hw] at hv
          obtain rfl := Option.some.inj hv
          have hup1 := visL_up _ _ _ hw
          have Hw := Aside0.mk hw
          have Hf := Aside0.mk hfj
          obtain ⟨p0, p1, p2, l0, l1, l2⟩ := HVj.out.lab j (by rw [HLj.out]; exact hlt)
          have m0 := HVj.out.labfree (j * 3)
          have m2 := HVj.out.labfree (j * 3 + 2)
          have c1 := HVj.out.cell 1
          have c2 := HVj.out.cell 2
          have f2 := HVj.out.free 2
          have hne := HVj.out.ne
          have HE := Aside0.mk (HVj.out.drew.enter j d)
          have HLe := Aside0.mk ((enter_len j d sj).trans HLj.out)
          have HLm := Aside0.mk (hup.1.trans HLj.out)
          have HLm1 := Aside0.mk ((hup1.1.trans (enter_len j d sj)).trans HLj.out)
          have b1 : sj.pre ≤ 1000000 := by have := hup.2.1; have := hup'.2.1; omega
          have b2 : m1.pre ≤ 1000000 := by have := hup'.2.1; simp only [leave] at this; omega
          have b3 : m1.post + 1 ≤ 1000000 := by have := hup'.2.2.1; simp only [leave] at this; omega
          have HHit := Aside0.mk hhit
          rw [hhit] at hcell
          simp at c1 c2
          clear hv hw hfj hup hup' hup1 hhit HFj
          go_wp2
          go_region
          go_wp2_with (go_at_call 34; refine (HIH.out k' (by omega) (d + 1) _ _ _ m1 _ (by omega) Hw.out HLe.out b2 (by omega) (by omega) HE.out).mono ?_; rintro e w1 ⟨rfl, hV1⟩; have HV1 := Aside0.mk hV1; clear hV1)
          clear c1 c2 f2 m0 m2 l0 l1 l2 hcell
          obtain ⟨q0, q1, q2, l0, l1, l2⟩ := HV1.out.lab j (by rw [HLm1.out]; exact hlt)
          have m1' := HV1.out.labfree (j * 3 + 1)
          have c1 := HV1.out.cell 1
          have c3 := HV1.out.cell 3
          have f3 := HV1.out.free 3
          have HE2 := Aside0.mk (HV1.out.drew.leave j)
          simp at c1 c3
          clear HE HV1
          go_region
          go_wp2
          go_roundg (n - (j + 1))
          case measure => have := HK.out; omega
          case rel => exact ⟨j + 1, leave j m1, by go_num, by omega, ⟨by omega⟩, Hf, HLm, HE2⟩
        · have hfj := HFj.out
          rw [kidsFrom_miss ps p j (by rw [HN.out]; exact hlt) hhit] at hfj
          have Hf := Aside0.mk hfj
          obtain ⟨q, hq'⟩ : ∃ q, ps.getD j 0 = q := ⟨_, rfl⟩
          rw [hq'] at hcell hhit
          have htest : (q != p) = true := by rw [bne_iff_ne]; exact hhit
          clear hq' hhit hfj HFj
          go_wp2
          go_roundg (n - (j + 1))
          case measure => have := HK.out; omega
          case rel => exact ⟨j + 1, sj, by go_num, by omega, ⟨by omega⟩, Hf, HLj, HVj⟩
      · have hfe := HFj.out
        rw [kidsFrom_end ps p j (by rw [HN.out]; omega), visL_nil] at hfe
        obtain rfl := Option.some.inj hfe
        clear HFj hfe
        go_wp2
        go_end0
        exact ⟨rfl, HVj.out⟩
end Go.Proofs.Ythjcmodhleoocaa.Q
/- WalkNew -/
namespace Go.Proofs.Ythjcmodhleoocaa.Q
open Go.RowKit Go.Proofs.YthjcmodhleoocaaW.PrintWords Go.Proofs.YthjcmodhleoocaaW.PrintLast Go.Proofs.YthjcmodhleoocaaW.PrintMore
open Go.Proofs.Ythjcmodhleoocaa.TP

/-- The labels of a list of parents: the numbering from the roots, where it stays small. -/
def numL (k : Nat) (ps : List Int) : Option (List Lab) :=
  if ps.length ≤ 1000000 then
    match visL ps (lim k) (kidsOf ps (-1)) 0 (blank ps.length) with
    | some t => if t.pre ≤ 1000000 ∧ t.post ≤ 1000000 then some t.L else none
    | none => none
  else none
theorem numL_some {k : Nat} {ps : List Int} {L : List Lab} (h : numL k ps = some L) : ps.length ≤ 1000000 ∧ ∃ t, visL ps (lim k) (kidsOf ps (-1)) 0 (blank ps.length) = some t ∧ t.pre ≤ 1000000 ∧ t.post ≤ 1000000 ∧ t.L = L := by
  unfold numL at h
  split at h
  case isFalse => cases h
  case isTrue hc =>
  cases hv : visL ps (lim k) (kidsOf ps (-1)) 0 (blank ps.length) with
  | none => rw [hv] at h; cases h
  | some t =>
    rw [hv] at h
    simp only at h
    split at h
    case isFalse => cases h
    case isTrue hp =>
    exact ⟨hc, t, rfl, hp.1, hp.2, Option.some.inj h⟩

theorem numL_of {k : Nat} {ps : List Int} {t : NS} (h1 : ps.length ≤ 1000000) (h : visL ps (lim k) (kidsOf ps (-1)) 0 (blank ps.length) = some t) (hp : t.pre ≤ 1000000) (hq : t.post ≤ 1000000) : numL k ps = some t.L := by
  unfold numL
  rw [if_pos h1, h]
  simp only
  rw [if_pos ⟨hp, hq⟩]
theorem numL_mono (k : Nat) (ps : List Int) : LeO (numL k ps) (numL (k + 1) ps) := by
  intro L h
  obtain ⟨h1, t, hv, hp, hq, rfl⟩ := numL_some h
  exact numL_of h1 (visL_lim hv) hp hq
/-- What the reference hands back. -/
def num43 (k : Nat) (ps : List Int) : Option (List S43 × Int × Int) := (numL k ps).bind fun L => some (L.map lab43, 0, 0)
theorem num43_mono (k : Nat) (ps : List Int) : LeO (num43 k ps) (num43 (k + 1) ps) := LeO.bind (numL_mono k ps) (fun _ => LeO.refl _)
set_option maxRecDepth 100000 in
set_option maxHeartbeats 1000000 in
theorem walk_none {g c : Nat} {A : Option Addr} (W : World) (h : W.cell? ⟨g, 0, none⟩ = some (.slice A 0 c)) :
    Calls Try.prog 34 #[.pointer (some ⟨g, 0, none⟩), .int .i64 (-1), .int .i64 0] W fun e w' => e = .returned (.tuple #[]) ∧ W = w' := by
  have hu61 := Try.underlying61
  go_enter Try.func34, Try.ntmps34
  go_wp2
  go_loop [13] (fun v => v = .int .i64 0) (fun _ => 0)
  case atStart => exact rfl
  case round =>
    subst hrel
    go_wp2
    go_end0
    exact ⟨rfl, rfl⟩

theorem walk_new {w W : World} {A0 A : Option Addr} {c0 c g k : Nat} {l0 : List Int} {y : List S43} {L : List Lab} (hr0 : Kd.C (Kd.int .i64) w A0 l0.length l0) (hbase : w.heap.size ≤ g)
    (hst : W.heap[g]? = some (.cells #[.slice A0 l0.length c0, .slice A y.length c, .int .i64 0, .int .i64 0] 61 (0, 0)))
    (hR : Kd.R k43 43 W w.heap.size (fun _ => True) (.slice A y.length c) y) (hy : y = List.replicate ((l0.length : Int) : Int).toNat z43) (hB : Below w.heap.size w W) (hnum : numL k l0 = some L) :
    Calls Try.prog 34 #[.pointer (some ⟨g, 0, none⟩), .int .i64 (-1), .int .i64 0] W fun e w' => e = .returned (.tuple #[]) ∧ Kd.R k43 43 w' w.heap.size (fun _ => True) (.slice A y.length c) (L.map lab43) ∧ w'.cell? ⟨g, 1, none⟩ = some (.slice A y.length c) ∧ Below w.heap.size w w' := by
  obtain ⟨hn, t, hv, hp, hq, rfl⟩ := numL_some hnum
  have hy' : y = List.replicate l0.length z43 := hy
  have hyl : y.length = l0.length := by rw [hy', List.length_replicate]
  rw [hyl] at hst hR ⊢
  rcases Nat.eq_zero_or_pos l0.length with h0 | hpos
  · rw [h0] at hst
    have hl0 : l0 = [] := List.eq_nil_of_length_eq_zero h0
    have hy0 : y = [] := by rw [hy', h0]; rfl
    refine (walk_none W ((blk_cell hst 0).trans rfl)).mono ?_
    rintro e w' ⟨rfl, rfl⟩
    have ht : t.L.map lab43 = y := by
      rw [hl0] at hv
      have : t = blank 0 := (Option.some.inj hv).symm
      rw [this, hy0]; rfl
    rw [ht]
    exact ⟨rfl, hR, by rw [h0]; exact (blk_cell hst 1).trans rfl, hB⟩
  · rw [hy'] at hR
    obtain ⟨gl, capl, hgl, _, _, _, _⟩ := Kd.R_form hR (by rw [List.length_replicate]; exact hpos)
    injection hgl with hg1 _ hg3
    subst hg1; subst hg3
    obtain ⟨curl, hcurl, hlc, hsz, hnc, hcm, hbl⟩ := cells43 hpos hR
    have hgne : g ≠ gl := blk_ne hst hcurl (by decide)
    have hV : VS 61 43 (.slice A0 l0.length c0) g gl l0.length c W W (blank l0.length) := ⟨rfl, rfl, rfl, rfl, fun _ _ _ => rfl, hst, ⟨curl, hcurl, hlc, hsz⟩, hgne⟩
    have hup := visL_up _ _ _ hv
    refine (walk_calls rfl hn (fun _ => ?_) (lim k) 0 (-1) 0 (blank l0.length) t W rfl hv (by simp [blank]) hp hq (by have := lim_le k; omega) hV).mono ?_
    · obtain ⟨_, _, hc⟩ := hr0
      obtain ⟨ad, hA, hcells⟩ := hc hpos
      have hcell : ∀ j, j < l0.length → w.cell? (ad.add j) = some (.int .i64 (l0.getD j 0)) := by
        intro j hj
        obtain ⟨cs, _, hK, hcs⟩ := hcells j l0[j] (List.getElem?_eq_getElem hj)
        have hK' : cs = [Value.int .i64 l0[j]] := hK
        have := hcs 0 (.int .i64 l0[j]) (by rw [hK']; rfl)
        have e1 : (Kd.int .i64).sz = 1 := rfl
        rw [e1, Nat.mul_one, Nat.add_zero] at this
        rw [this, List.getD_eq_getElem?_getD, List.getElem?_eq_getElem hj]; rfl
      have hlt : ad.block < w.heap.size := by have := World.block_lt_of_cell? w _ (hcell 0 hpos); rwa [add_block] at this
      exact ⟨ad, hA, by omega, by omega, fun j hj => (hB.cell (World.block_lt_of_cell? w _ (hcell j hj))).trans (hcell j hj)⟩
    · rintro e w' ⟨rfl, hV'⟩
      refine ⟨rfl, hV'.result43 w.heap.size hbl (by rw [hup.1]; simp [blank]) hnc hcm, (hV'.cell 1).trans rfl, ⟨hV'.os.trans hB.os, hV'.tape.trans hB.tape, hV'.output.trans hB.output, by rw [hV'.size]; exact hB.size, fun j hj => (hV'.keep j (by omega) (by omega)).trans (hB.block j hj)⟩⟩
end Go.Proofs.Ythjcmodhleoocaa.Q
/- EvAid -/
namespace Go.Proofs.Ythjcmodhleoocaa.Q
open Go.RowKit Go.Proofs.YthjcmodhleoocaaW.PrintWords Go.Proofs.YthjcmodhleoocaaW.PrintLast

theorem ev_pos {α : Type} {c : Prop} [Decidable c] {f g : Nat → Option α} {r : α} (h : c) (e : Ev f r) : Ev (fun k => if c then f k else g k) r := Ev.congr (fun _ => if_pos h) e
theorem ev_neg {α : Type} {c : Prop} [Decidable c] {f g : Nat → Option α} {r : α} (h : ¬ c) (e : Ev g r) : Ev (fun k => if c then f k else g k) r := Ev.congr (fun _ => if_neg h) e
theorem ev_some {α β : Type} {a : α} {f : Nat → α → Option β} {r : β} (e : Ev (fun k => f k a) r) : Ev (fun k => (some a).bind (f k)) r := e
theorem ev_now {α : Type} {r r' : α} (h : r = r') : Ev (fun _ => some r) r' := by subst h; exact Ev.now r
theorem ev_eq {α : Type} {f : Nat → Option α} {r r' : α} (e : Ev f r) (h : r = r') : Ev f r' := h ▸ e
theorem wrap_up (i : Nat) (h : i ≤ 4611686018427387904) : wrap64 ((i : Int) + 1) = ((i + 1 : Nat) : Int) := by
  unfold wrap64; omega
theorem wrap_in (x : Int) (h0 : -4611686018427387904 ≤ x) (h : x ≤ 4611686018427387904) : wrap64 x = x := by
  unfold wrap64; omega
theorem rd_rdi (ps : List Int) (x : Int) : rd ps x = TP.rdi ps x := rfl
theorem rd_set_same {xs : List Int} {i v : Int} (h0 : 0 ≤ i) (h : i < xs.length) : rd (xs.set i.toNat v) i = v := by
  unfold rd
  rw [List.getD_eq_getElem?_getD, List.getElem?_set_self (by omega)]; rfl
theorem rd_set_ne {xs : List Int} {i j v : Int} (h0 : 0 ≤ i) (hj : 0 ≤ j) (h : i ≠ j) : rd (xs.set i.toNat v) j = rd xs j := by
  unfold rd
  rw [List.getD_eq_getElem?_getD, List.getElem?_set_ne (by omega), ← List.getD_eq_getElem?_getD]
theorem rd_replicate {n : Nat} {i v : Int} (h0 : 0 ≤ i) (h : i < n) : rd (List.replicate n v) i = v := by
  unfold rd
  rw [List.getD_eq_getElem?_getD, List.getElem?_replicate, if_pos (by omega)]; rfl
end Go.Proofs.Ythjcmodhleoocaa.Q
