/- The law FeatureFormats holds of every list of strings: feature.Format and the reference's Format give the same text, or the same error; no condition. -/
import Derived.Laws.Cover1
import Derived.Test.YtcgglamgemgeiaaMFmt1
import Derived.Test.YtcgglamgemgeiaaMFmt2
import Derived.Test.YtcgglamgemgeiaaRows
import Derived.WalkKit
import Derived.ProofKit
import Derived.OpenShut
import Derived.SliceStrings
import Derived.ChangeOld
import Derived.Below
import Derived.Carry
import Derived.SizedLaws
set_option linter.unusedVariables false
set_option linter.unusedSimpArgs false
set_option linter.unusedSectionVars false
/- FCorporaref05Parse -/
namespace Go.Proofs.Ytcgglamgemgeiaa.Q
open Go.RowKit Go.Proofs.YtcgglamgemgeiaaW.PrintWords Go.Proofs.YtcgglamgemgeiaaW.PrintLast Go.Proofs.YtcgglamgemgeiaaW.PrintMore
attribute [local go_sem] max2_int min2_int max_two min_two max_three min_three max_four min_four   -- for this text's walks alone
set_option linter.unusedVariables false
set_option linter.unusedSimpArgs false

/-! ### corporaref05_Parse: function 13 -/
mutual
def corporaref05_Parse.j0 : Nat → ByteArray → Int → Bool → Option (List ByteArray × Int)
  | 0, _, _, _ => none
  | k + 1, x0, x5, x30 => if x30 = true then (some (([] : List ByteArray), 3)) else (corporaref05_Parse.l0 k x0 x5 ([] : List ByteArray) 1 1)
def corporaref05_Parse.l0 : Nat → ByteArray → Int → List ByteArray → Int → Int → Option (List ByteArray × Int)
  | 0, _, _, _, _, _ => none
  | k + 1, x0, x5, x6, x7, x8 => if x8 < x5 then (if 0 ≤ x8 then (if x8 < (x0.size : Int) then (if (bt x0 x8) = 124 then (if x8 = x7 then (some (([] : List ByteArray), 3)) else (if 0 ≤ x7 then (if x7 ≤ x8 then (if x8 ≤ (x0.size : Int) then (if x6.length < 8796093022208 then (corporaref05_Parse.l0 k x0 x5 (x6 ++ [x0.extract (x7 : Int).toNat (x8 : Int).toNat]) (wrap64 (x8 + 1)) (wrap64 (x8 + 1))) else (none)) else (none)) else (none)) else (none))) else (corporaref05_Parse.l0 k x0 x5 x6 x7 (wrap64 (x8 + 1)))) else (none)) else (none)) else (corporaref05_Parse.l1 k x6 1)
def corporaref05_Parse.l1 : Nat → List ByteArray → Int → Option (List ByteArray × Int)
  | 0, _, _ => none
  | k + 1, x6, x9 => if x9 < (x6.length : Int) then (if 0 ≤ (wrap64 (x9 - 1)) then (if (wrap64 (x9 - 1)) < (x6.length : Int) then (if 0 ≤ x9 then (if ((Op.bytesLess ((rdOf ByteArray.empty x6 (wrap64 (x9 - 1))).toList) ((rdOf ByteArray.empty x6 x9).toList)) = true) then (corporaref05_Parse.l1 k x6 (wrap64 (x9 + 1))) else (some (([] : List ByteArray), 6))) else (none)) else (none)) else (none)) else (some (x6, 0))
end
def corporaref05_Parse.f (k : Nat) (a0 : ByteArray) : Option (List ByteArray × Int) := (corporaref04_ValidValue.f a0).bind fun t121 => (if t121 = 0 then (if (a0.size : Int) = 0 then (corporaref05_Parse.j0 k a0 (a0.size : Int) true) else (if 0 < (a0.size : Int) then (if (bt a0 0) = 124 then (if 0 ≤ (wrap64 ((a0.size : Int) - 1)) then (if (wrap64 ((a0.size : Int) - 1)) < (a0.size : Int) then (corporaref05_Parse.j0 k a0 (a0.size : Int) ((bt a0 (wrap64 ((a0.size : Int) - 1))) != 124)) else (none)) else (none)) else (corporaref05_Parse.j0 k a0 (a0.size : Int) true)) else (none))) else (some (([] : List ByteArray), t121)))
theorem corporaref05_Parse.mono_l : ∀ k, (∀ y0 y1 y2, LeO (corporaref05_Parse.j0 k y0 y1 y2) (corporaref05_Parse.j0 (k + 1) y0 y1 y2)) ∧ (∀ y0 y1 y2 y3 y4, LeO (corporaref05_Parse.l0 k y0 y1 y2 y3 y4) (corporaref05_Parse.l0 (k + 1) y0 y1 y2 y3 y4)) ∧ (∀ y0 y1, LeO (corporaref05_Parse.l1 k y0 y1) (corporaref05_Parse.l1 (k + 1) y0 y1))
  | 0 => ⟨fun _ _ _ r h => by simp [corporaref05_Parse.j0] at h, fun _ _ _ _ _ r h => by simp [corporaref05_Parse.l0] at h, fun _ _ r h => by simp [corporaref05_Parse.l1] at h⟩
  | k + 1 => by
    obtain ⟨ih0, ih1, ih2⟩ := corporaref05_Parse.mono_l k
    refine ⟨?_, ?_, ?_⟩
    · intro y0 y1 y2
      unfold corporaref05_Parse.j0
      repeat' first
      | (with_reducible exact ih0 _ _ _)
      | (with_reducible exact ih1 _ _ _ _ _)
      | (with_reducible exact ih2 _ _)
      | (with_reducible exact LeO.refl _)
      | (with_reducible exact LeO.none _)
      | (with_reducible refine LeO.ite ?_ ?_)
      | (with_reducible refine LeO.bind ?_ (fun _ => ?_))
      | exact ih0 _ _ _
      | exact ih1 _ _ _ _ _
      | exact ih2 _ _
      | exact LeO.none _
      | refine LeO.ite ?_ ?_
      | refine LeO.bind ?_ (fun _ => ?_)
    · intro y0 y1 y2 y3 y4
      unfold corporaref05_Parse.l0
      repeat' first
      | (with_reducible exact ih0 _ _ _)
      | (with_reducible exact ih1 _ _ _ _ _)
      | (with_reducible exact ih2 _ _)
      | (with_reducible exact LeO.refl _)
      | (with_reducible exact LeO.none _)
      | (with_reducible refine LeO.ite ?_ ?_)
      | (with_reducible refine LeO.bind ?_ (fun _ => ?_))
      | exact ih0 _ _ _
      | exact ih1 _ _ _ _ _
      | exact ih2 _ _
      | exact LeO.none _
      | refine LeO.ite ?_ ?_
      | refine LeO.bind ?_ (fun _ => ?_)
    · intro y0 y1
      unfold corporaref05_Parse.l1
      repeat' first
      | (with_reducible exact ih0 _ _ _)
      | (with_reducible exact ih1 _ _ _ _ _)
      | (with_reducible exact ih2 _ _)
      | (with_reducible exact LeO.refl _)
      | (with_reducible exact LeO.none _)
      | (with_reducible refine LeO.ite ?_ ?_)
      | (with_reducible refine LeO.bind ?_ (fun _ => ?_))
      | exact ih0 _ _ _
      | exact ih1 _ _ _ _ _
      | exact ih2 _ _
      | exact LeO.none _
      | refine LeO.ite ?_ ?_
      | refine LeO.bind ?_ (fun _ => ?_)
theorem corporaref05_Parse.mono : ∀ a0 k, LeO (corporaref05_Parse.f k a0) (corporaref05_Parse.f (k + 1) a0) := by
  intro a0 k
  obtain ⟨ih0, ih1, ih2⟩ := corporaref05_Parse.mono_l k
  unfold corporaref05_Parse.f
  repeat' first
      | (with_reducible exact ih0 _ _ _)
      | (with_reducible exact ih1 _ _ _ _ _)
      | (with_reducible exact ih2 _ _)
      | (with_reducible exact LeO.refl _)
      | (with_reducible exact LeO.none _)
      | (with_reducible refine LeO.ite ?_ ?_)
      | (with_reducible refine LeO.bind ?_ (fun _ => ?_))
      | exact ih0 _ _ _
      | exact ih1 _ _ _ _ _
      | exact ih2 _ _
      | exact LeO.none _
      | refine LeO.ite ?_ ?_
      | refine LeO.bind ?_ (fun _ => ?_)
set_option maxHeartbeats 8000000 in
set_option maxRecDepth 100000 in
theorem corporaref05_Parse.calls (k : Nat) (a0 : ByteArray) (r1 : List ByteArray) (r2 : Int) (w : World) (h : corporaref05_Parse.f k a0 = some (r1, r2)) :
    Calls Try.prog 13 #[.string a0] w fun e w' => ∃ v0_ : Value, e = .returned (.tuple #[v0_, .int .i64 r2]) ∧ Kd.R Kd.string 9 w' w.heap.size (fun _ => True) v0_ r1 ∧ Below w.heap.size w w' := by
  have HB := Aside0.mk (Below.refl w.heap.size w)
  have H : ((corporaref04_ValidValue.f a0).bind fun t121 => (if t121 = 0 then (if (a0.size : Int) = 0 then (corporaref05_Parse.j0 k a0 (a0.size : Int) true) else (if 0 < (a0.size : Int) then (if (bt a0 0) = 124 then (if 0 ≤ (wrap64 ((a0.size : Int) - 1)) then (if (wrap64 ((a0.size : Int) - 1)) < (a0.size : Int) then (corporaref05_Parse.j0 k a0 (a0.size : Int) ((bt a0 (wrap64 ((a0.size : Int) - 1))) != 124)) else (none)) else (none)) else (corporaref05_Parse.j0 k a0 (a0.size : Int) true)) else (none))) else (some (([] : List ByteArray), t121)))) = some (r1, r2) := h
  clear h
  replace H := Option.bind_eq_some_iff.mp H
  obtain ⟨t121, A20, H⟩ := H
  replace H : (if t121 = 0 then (if (a0.size : Int) = 0 then (corporaref05_Parse.j0 k a0 (a0.size : Int) true) else (if 0 < (a0.size : Int) then (if (bt a0 0) = 124 then (if 0 ≤ (wrap64 ((a0.size : Int) - 1)) then (if (wrap64 ((a0.size : Int) - 1)) < (a0.size : Int) then (corporaref05_Parse.j0 k a0 (a0.size : Int) ((bt a0 (wrap64 ((a0.size : Int) - 1))) != 124)) else (none)) else (none)) else (corporaref05_Parse.j0 k a0 (a0.size : Int) true)) else (none))) else (some (([] : List ByteArray), t121))) = some (r1, r2) := H
  have A2 := Aside0.mk A20
  clear A20
  by_cases c3 : t121 = 0
  · rw [if_pos c3] at H
    have c3b0 : (t121 == 0) = true := beq_iff_eq.mpr c3
    have c3b1 : (t121 != 0) = false := bne_eq_false_iff_eq.mpr c3
    clear c3
    have HC4 := Aside0.mk H
    clear H
    go_enter Try.func13, Try.ntmps13
    go_upto_region 5 with (first | (go_at_call 27; (with_reducible refine (corporaref04_ValidValue.calls a0 t121 _ A2.out).mono ?_); rintro e w5 ⟨rfl, hb⟩; have n0_ := Aside0.mk (below_step (by repeat (first | (with_reducible first | exact HB.out | apply below_alloc | apply pw_below_drewN | apply below_drew1) | exact HB.out)) hb); clear HB; have HB := n0_; clear n0_; (try clear hb); (try clear hb2); (try clear hk); (try clear hi)))
    repeat (go_quiet (first | (go_at_call 27; (with_reducible refine (corporaref04_ValidValue.calls a0 t121 _ A2.out).mono ?_); rintro e w5 ⟨rfl, hb⟩; have n0_ := Aside0.mk (below_step (by repeat (first | (with_reducible first | exact HB.out | apply below_alloc | apply pw_below_drewN | apply below_drew1) | exact HB.out)) hb); clear HB; have HB := n0_; clear n0_; (try clear hb); (try clear hb2); (try clear hk); (try clear hi))); go_upto_region 5 with (first | (go_at_call 27; (with_reducible refine (corporaref04_ValidValue.calls a0 t121 _ A2.out).mono ?_); rintro e w5 ⟨rfl, hb⟩; have n0_ := Aside0.mk (below_step (by repeat (first | (with_reducible first | exact HB.out | apply below_alloc | apply pw_below_drewN | apply below_drew1) | exact HB.out)) hb); clear HB; have HB := n0_; clear n0_; (try clear hb); (try clear hb2); (try clear hk); (try clear hi))))
    (try simp only [Act.put, List.setIfInBounds_toArray, List.set_cons_zero, List.set_cons_succ])
    go_cut [30] (fun v30 wc => ∃ (kq : Nat) (x30_3 : Bool), v30 = .bool x30_3 ∧ Aside0 (corporaref05_Parse.j0 kq a0 (a0.size : Int) x30_3 = some (r1, r2)) ∧ Aside0 (kq ≤ k) ∧ Aside0 (Below w.heap.size w wc))
    case first =>
      have H := HC4.out
      clear HC4
      by_cases c6 : (a0.size : Int) = 0
      · rw [if_pos c6] at H
        have c6b0 : ((a0.size : Int) == 0) = true := beq_iff_eq.mpr c6
        have c6b1 : ((a0.size : Int) != 0) = false := bne_eq_false_iff_eq.mpr c6
        clear c6
        (first | rw [c6b0] | (simp only [i64_w, i32_w]; rw [c6b0]) | skip)
        have H' := Aside0.mk H
        clear H
        go_wp2
        repeat (go_quiet (fail); try go_wp2)
        go_meet
        case rel => exact ⟨_, (true), (by first | rfl | (simp; done) | (simp [*]; done)), H', ⟨by first | omega | exact Nat.le_refl _⟩, ⟨by repeat (first | (with_reducible first | exact HB.out | apply below_alloc | apply pw_below_drewN | apply below_drew1) | exact HB.out)⟩⟩
      · rw [if_neg c6] at H
        have c6b0 : ((a0.size : Int) == 0) = false := beq_eq_false_iff_ne.mpr c6
        have c6b1 : ((a0.size : Int) != 0) = true := bne_iff_ne.mpr c6
        (first | rw [c6b0] | (simp only [i64_w, i32_w]; rw [c6b0]) | skip)
        by_cases c7 : 0 < (a0.size : Int)
        · rw [if_pos c7] at H
          have c7b0 : decide (0 < (a0.size : Int)) = true := decide_eq_true c7
          have c7b1 : decide (0 < a0.size) = true := decide_eq_true (by omega)
          clear c7
          by_cases c9 : (bt a0 0) = 124
          · rw [if_pos c9] at H
            have c9b0 : ((bt a0 0) == 124) = true := beq_iff_eq.mpr c9
            have c9b1 : ((bt a0 0) != 124) = false := bne_eq_false_iff_eq.mpr c9
            clear c9
            obtain ⟨ji10, hji10⟩ : ∃ j_ : Int, (wrap64 ((a0.size : Int) - 1)) = j_ := ⟨_, rfl⟩
            replace H : (if 0 ≤ (ji10) then (if (ji10) < (a0.size : Int) then (corporaref05_Parse.j0 k a0 (a0.size : Int) ((bt a0 (ji10)) != 124)) else (none)) else (none)) = some (r1, r2) := by first | (rw [hji10] at H; exact H) | (simp only [hji10] at H ⊢; exact H)
            have hji10w : (IntKind.i64.wrap ((a0.size : Int) - 1)) = ji10 := (i64_w _).trans hji10
            by_cases c11 : 0 ≤ (ji10)
            · rw [if_pos c11] at H
              have c11b0 : decide (0 ≤ (ji10)) = true := decide_eq_true c11
              clear c11
              by_cases c12 : (ji10) < (a0.size : Int)
              · rw [if_pos c12] at H
                have c12b0 : decide ((ji10) < (a0.size : Int)) = true := decide_eq_true c12
                clear c12
                have H' := Aside0.mk H
                clear H
                have p8 : 0 ≤ (0 : Int) := (by omega)
                have q8 : 0 < a0.size := (by have : (0 : Int) < (a0.size : Int) := of_decide_eq_true (by first | (with_reducible assumption) | assumption); omega)
                have hx8 : ∀ h : 0 < a0.size, ((a0[0]'h).toNat : Int) = bt a0 0 := bt_at a0 0
                clear p8
                have qi8 : (0 < (a0.size : Int)) = True := eq_true (of_decide_eq_true (by first | (with_reducible assumption) | assumption))
                replace q8 := eq_true q8
                have p13 : 0 ≤ ((ji10) : Int) := of_decide_eq_true (by first | (with_reducible assumption) | assumption)
                have q13 : (ji10) < (a0.size : Int) := of_decide_eq_true (by first | (with_reducible assumption) | assumption)
                have hx13 := bt_at a0 (ji10)
                replace p13 := eq_true p13
                replace q13 := eq_true q13
                go_wp2
                repeat (go_quiet (fail); try go_wp2)
                go_meet
                case rel => exact ⟨_, (((bt a0 (ji10)) != 124)), (by first | rfl | (simp; done) | (simp only [← hji10] <;> (first | rfl | simp)) | (simp [*]; done)), H', ⟨by first | omega | exact Nat.le_refl _⟩, ⟨by repeat (first | (with_reducible first | exact HB.out | apply below_alloc | apply pw_below_drewN | apply below_drew1) | exact HB.out)⟩⟩
              · rw [if_neg c12] at H
                exact absurd H (by simp)
            · rw [if_neg c11] at H
              exact absurd H (by simp)
          · rw [if_neg c9] at H
            have c9b0 : ((bt a0 0) == 124) = false := beq_eq_false_iff_ne.mpr c9
            have c9b1 : ((bt a0 0) != 124) = true := bne_iff_ne.mpr c9
            have H' := Aside0.mk H
            clear H
            have p8 : 0 ≤ (0 : Int) := (by omega)
            have q8 : 0 < a0.size := (by have : (0 : Int) < (a0.size : Int) := of_decide_eq_true (by first | (with_reducible assumption) | assumption); omega)
            have hx8 : ∀ h : 0 < a0.size, ((a0[0]'h).toNat : Int) = bt a0 0 := bt_at a0 0
            clear p8
            have qi8 : (0 < (a0.size : Int)) = True := eq_true (of_decide_eq_true (by first | (with_reducible assumption) | assumption))
            replace q8 := eq_true q8
            go_wp2
            repeat (go_quiet (fail); try go_wp2)
            go_meet
            case rel => exact ⟨_, (true), (by first | rfl | (simp; done) | (simp [*]; done)), H', ⟨by first | omega | exact Nat.le_refl _⟩, ⟨by repeat (first | (with_reducible first | exact HB.out | apply below_alloc | apply pw_below_drewN | apply below_drew1) | exact HB.out)⟩⟩
        · rw [if_neg c7] at H
          exact absurd H (by simp)
    case rest =>
      clear HC4
      try clear c1
      try clear p1
      try clear q1
      try clear hx1
      try clear p2
      try clear c3
      try clear c3b0
      try clear c3b1
      try clear c6
      try clear c6b0
      try clear c6b1
      try clear p6
      try clear c7
      try clear c7b0
      try clear c7b1
      try clear p8
      try clear q8
      try clear hx8
      try clear qi8
      try clear c9
      try clear c9b0
      try clear c9b1
      try clear c11
      try clear c11b0
      try clear c12
      try clear c12b0
      try clear c13
      try clear p13
      try clear q13
      try clear hx13
      try clear p13
      try clear p8
      try clear q13
      try clear q8
      obtain ⟨kq, x30_3, rfl, HA, HJ3, HB⟩ := hcut
      cases kq with
      | zero => exact absurd HA.out (by simp [corporaref05_Parse.j0])
      | succ kj3 =>
        have H := HA.out
        clear HA
        simp only [corporaref05_Parse.j0] at H
        by_cases c14 : x30_3 = true
        · subst c14
          have H1 : (some (([] : List ByteArray), 3)) = some (r1, r2) := by rw [if_pos rfl] at H; exact H
          clear H
          have H := H1
          clear H1
          simp only [Option.some.injEq, Prod.mk.injEq] at H
          obtain ⟨rfl, rfl⟩ := H
          go_wp2
          repeat (go_quiet (fail); try go_wp2)
          go_ret2
          exact ⟨_, by first | rfl | (simp [errW_none, errW_some] <;> rfl) | (simp [*, errW_none, errW_some] <;> rfl), by first | exact Kd.R_nil _ _ _ _ _ | exact Kd.N_nil _ _ _ _ _ | exact Kd.V_nil _ _ _ _ _ | exact Kd.Q_nil _ _ _ _ _ | exact Kd.S_nil _ _ _ _ _, by repeat (first | (with_reducible first | exact HB.out | apply below_alloc | apply pw_below_drewN | apply below_drew1) | exact HB.out)⟩
        · replace c14 := Bool.eq_false_iff.mpr c14
          subst c14
          have H1 : (corporaref05_Parse.l0 kj3 a0 (a0.size : Int) ([] : List ByteArray) 1 1) = some (r1, r2) := by rw [if_neg (show ¬ (false = true) by decide)] at H; exact H
          clear H
          have H := H1
          clear H1
          have H' := Aside0.mk H
          clear H
          go_wp2
          repeat (go_quiet (fail); try go_wp2)
          go_loopg [6, 7, 8] kj3 (fun kq v6 v7 v8 w' => ∃ (x6_2 : List ByteArray) (x7_2 : Int) (x8_2 : Int), v7 = .int .i64 x7_2 ∧ v8 = .int .i64 x8_2 ∧ Aside0 (corporaref05_Parse.l0 kq a0 (a0.size : Int) x6_2 x7_2 x8_2 = some (r1, r2)) ∧ Aside0 (kq ≤ kj3) ∧ Aside0 (Kd.R Kd.string 9 w' w.heap.size (fun _ => True) v6 x6_2) ∧ Aside0 (Below w.heap.size w w'))
          case atStart => exact ⟨(([] : List ByteArray)), (1), (1), (by first | rfl | (simp; done) | (simp [*]; done)), (by first | rfl | (simp; done) | (simp [*]; done)), H', ⟨Nat.le_refl _⟩, ⟨by first | exact Kd.R_nil _ _ _ _ _ | exact Kd.N_nil _ _ _ _ _ | exact Kd.V_nil _ _ _ _ _ | exact Kd.Q_nil _ _ _ _ _ | exact Kd.S_nil _ _ _ _ _⟩, ⟨by repeat (first | (with_reducible first | exact HB.out | apply below_alloc | apply pw_below_drewN | apply below_drew1) | exact HB.out)⟩⟩
          case round =>
            clear H'
            try clear c1
            try clear p1
            try clear q1
            try clear hx1
            try clear p2
            try clear c3
            try clear c3b0
            try clear c3b1
            try clear c6
            try clear c6b0
            try clear c6b1
            try clear p6
            try clear c7
            try clear c7b0
            try clear c7b1
            try clear p8
            try clear q8
            try clear hx8
            try clear qi8
            try clear c9
            try clear c9b0
            try clear c9b1
            try clear c11
            try clear c11b0
            try clear c12
            try clear c12b0
            try clear c13
            try clear p13
            try clear q13
            try clear hx13
            try clear c14
            try clear p1
            try clear p13
            try clear p2
            try clear p6
            try clear p8
            try clear q1
            try clear q13
            try clear q8
            obtain ⟨x6_2, x7_2, x8_2, rfl, rfl, HA, HK2, HO_6, HB⟩ := hrel
            cases gk with
            | zero => exact absurd HA.out (by simp [corporaref05_Parse.l0])
            | succ k2 =>
              have H := HA.out
              clear HA
              simp only [corporaref05_Parse.l0] at H
              by_cases c15 : x8_2 < (a0.size : Int)
              · rw [if_pos c15] at H
                have c15b0 : decide (x8_2 < (a0.size : Int)) = true := decide_eq_true c15
                clear c15
                by_cases c16 : 0 ≤ x8_2
                · rw [if_pos c16] at H
                  have c16b0 : decide (0 ≤ x8_2) = true := decide_eq_true c16
                  clear c16
                  by_cases c17 : x8_2 < (a0.size : Int)
                  · rw [if_pos c17] at H
                    have c17b0 : decide (x8_2 < (a0.size : Int)) = true := decide_eq_true c17
                    clear c17
                    by_cases c19 : (bt a0 x8_2) = 124
                    · rw [if_pos c19] at H
                      have c19b0 : ((bt a0 x8_2) == 124) = true := beq_iff_eq.mpr c19
                      have c19b1 : ((bt a0 x8_2) != 124) = false := bne_eq_false_iff_eq.mpr c19
                      clear c19
                      by_cases c20 : x8_2 = x7_2
                      · rw [if_pos c20] at H
                        have c20b0 : (x8_2 == x7_2) = true := beq_iff_eq.mpr c20
                        have c20b1 : (x8_2 != x7_2) = false := bne_eq_false_iff_eq.mpr c20
                        clear c20
                        simp only [Option.some.injEq, Prod.mk.injEq] at H
                        obtain ⟨rfl, rfl⟩ := H
                        have p18 : 0 ≤ (x8_2 : Int) := of_decide_eq_true (by first | (with_reducible assumption) | assumption)
                        have q18 : x8_2 < (a0.size : Int) := of_decide_eq_true (by first | (with_reducible assumption) | assumption)
                        have hx18 := bt_at a0 x8_2
                        replace p18 := eq_true p18
                        replace q18 := eq_true q18
                        go_wp2
                        repeat (go_quiet (fail); try go_wp2)
                        go_ret2
                        exact ⟨_, by first | rfl | (simp [errW_none, errW_some] <;> rfl) | (simp [*, errW_none, errW_some] <;> rfl), by first | exact Kd.R_nil _ _ _ _ _ | exact Kd.N_nil _ _ _ _ _ | exact Kd.V_nil _ _ _ _ _ | exact Kd.Q_nil _ _ _ _ _ | exact Kd.S_nil _ _ _ _ _, by repeat (first | (with_reducible first | exact HB.out | apply below_alloc | apply pw_below_drewN | apply below_drew1) | exact HB.out)⟩
                      · rw [if_neg c20] at H
                        have c20b0 : (x8_2 == x7_2) = false := beq_eq_false_iff_ne.mpr c20
                        have c20b1 : (x8_2 != x7_2) = true := bne_iff_ne.mpr c20
                        by_cases c21 : 0 ≤ x7_2
                        · rw [if_pos c21] at H
                          have c21b0 := eq_true c21
                          have c21b1 : decide (0 ≤ x7_2) = true := decide_eq_true c21
                          clear c21
                          by_cases c22 : x7_2 ≤ x8_2
                          · rw [if_pos c22] at H
                            have c22b0 := eq_true c22
                            have c22b1 : decide (x7_2 ≤ x8_2) = true := decide_eq_true c22
                            clear c22
                            by_cases c23 : x8_2 ≤ (a0.size : Int)
                            · rw [if_pos c23] at H
                              have c23b0 := eq_true c23
                              have c23b1 : decide (x8_2 ≤ (a0.size : Int)) = true := decide_eq_true c23
                              clear c23
                              by_cases c24 : x6_2.length < 8796093022208
                              · rw [if_pos c24] at H
                                have LMc24 := Aside0.mk c24
                                clear c24
                                obtain ⟨y122, hy122⟩ : ∃ y_ : List ByteArray, y_ = (x6_2 ++ [a0.extract (x7_2 : Int).toNat (x8_2 : Int).toNat]) := ⟨_, rfl⟩
                                replace H : (corporaref05_Parse.l0 k2 a0 (a0.size : Int) y122 (wrap64 (x8_2 + 1)) (wrap64 (x8_2 + 1))) = some (r1, r2) := by first | (rw [hy122]; with_reducible exact H) | (have H2_ := (Option.bind_some _ _).symm.trans H; rw [hy122]; with_reducible exact H2_) | (have H2_ := (Option.bind_some _ _).symm.trans H; with_reducible exact H2_) | with_reducible exact H | (rw [hy122]; exact H) | exact H
                                have Ny122 := Aside0.mk hy122
                                clear hy122
                                have H' := Aside0.mk H
                                clear H
                                have p18 : 0 ≤ (x8_2 : Int) := of_decide_eq_true (by first | (with_reducible assumption) | assumption)
                                have q18 : x8_2 < (a0.size : Int) := of_decide_eq_true (by first | (with_reducible assumption) | assumption)
                                have hx18 := bt_at a0 x8_2
                                replace p18 := eq_true p18
                                replace q18 := eq_true q18
                                go_wp2_with (first | ((with_reducible refine gate_builtin (b := .append) (xs := #[.tmp 43, .tmp 48]) rfl ?_); at_builtin; refine Kd.R_append Kd.string (w0 := w) w.heap.size rfl (.tmp 43) (.tmp 48) 23 9 (.string ⟨#[]⟩) 16 rfl Try.underlying23 info9 rfl (by decide) (by omega) u6 x6_2 (a0.extract (x7_2 : Int).toNat (x8_2 : Int).toNat) [.string (a0.extract (x7_2 : Int).toNat (x8_2 : Int).toNat)] (fun _ => True) (fun _ => False) rfl rfl ?aP (fun _ hk => hk.elim) ?aF ?aO ?aB ?aS ?aL ?_; (case aP => exact rfl); (case aB => exact (by repeat (first | (with_reducible first | exact HB.out | apply below_alloc | apply pw_below_drewN | apply below_drew1) | exact HB.out))); (case aF => exact (fun _ _ => trivial)); (case aO => exact (by (with_reducible repeat (first | apply Kd.R_alloc | apply Kd.R_drewN | apply Kd.R_drew)); exact HO_6.out)); (case aS => exact (below_size (by repeat (first | (with_reducible first | exact HB.out | apply below_alloc | apply pw_below_drewN | apply below_drew1) | exact HB.out)))); (case aL => have := LMc24.out; omega); intro v123 w25 ho hb hg hat; rw [← Ny122.out] at ho; have n0_ := Aside0.mk (hb); have n1_ := Aside0.mk (ho); clear HB; clear HO_6; have HB := n0_; have HO124 := n1_; clear n0_ n1_; clear ho hb hg hat))
                                repeat (go_quiet (first | ((with_reducible refine gate_builtin (b := .append) (xs := #[.tmp 43, .tmp 48]) rfl ?_); at_builtin; refine Kd.R_append Kd.string (w0 := w) w.heap.size rfl (.tmp 43) (.tmp 48) 23 9 (.string ⟨#[]⟩) 16 rfl Try.underlying23 info9 rfl (by decide) (by omega) u6 x6_2 (a0.extract (x7_2 : Int).toNat (x8_2 : Int).toNat) [.string (a0.extract (x7_2 : Int).toNat (x8_2 : Int).toNat)] (fun _ => True) (fun _ => False) rfl rfl ?aP (fun _ hk => hk.elim) ?aF ?aO ?aB ?aS ?aL ?_; (case aP => exact rfl); (case aB => exact (by repeat (first | (with_reducible first | exact HB.out | apply below_alloc | apply pw_below_drewN | apply below_drew1) | exact HB.out))); (case aF => exact (fun _ _ => trivial)); (case aO => exact (by (with_reducible repeat (first | apply Kd.R_alloc | apply Kd.R_drewN | apply Kd.R_drew)); exact HO_6.out)); (case aS => exact (below_size (by repeat (first | (with_reducible first | exact HB.out | apply below_alloc | apply pw_below_drewN | apply below_drew1) | exact HB.out)))); (case aL => have := LMc24.out; omega); intro v123 w25 ho hb hg hat; rw [← Ny122.out] at ho; have n0_ := Aside0.mk (hb); have n1_ := Aside0.mk (ho); clear HB; clear HO_6; have HB := n0_; have HO124 := n1_; clear n0_ n1_; clear ho hb hg hat)); try go_wp2_with (first | ((with_reducible refine gate_builtin (b := .append) (xs := #[.tmp 43, .tmp 48]) rfl ?_); at_builtin; refine Kd.R_append Kd.string (w0 := w) w.heap.size rfl (.tmp 43) (.tmp 48) 23 9 (.string ⟨#[]⟩) 16 rfl Try.underlying23 info9 rfl (by decide) (by omega) u6 x6_2 (a0.extract (x7_2 : Int).toNat (x8_2 : Int).toNat) [.string (a0.extract (x7_2 : Int).toNat (x8_2 : Int).toNat)] (fun _ => True) (fun _ => False) rfl rfl ?aP (fun _ hk => hk.elim) ?aF ?aO ?aB ?aS ?aL ?_; (case aP => exact rfl); (case aB => exact (by repeat (first | (with_reducible first | exact HB.out | apply below_alloc | apply pw_below_drewN | apply below_drew1) | exact HB.out))); (case aF => exact (fun _ _ => trivial)); (case aO => exact (by (with_reducible repeat (first | apply Kd.R_alloc | apply Kd.R_drewN | apply Kd.R_drew)); exact HO_6.out)); (case aS => exact (below_size (by repeat (first | (with_reducible first | exact HB.out | apply below_alloc | apply pw_below_drewN | apply below_drew1) | exact HB.out)))); (case aL => have := LMc24.out; omega); intro v123 w25 ho hb hg hat; rw [← Ny122.out] at ho; have n0_ := Aside0.mk (hb); have n1_ := Aside0.mk (ho); clear HB; clear HO_6; have HB := n0_; have HO124 := n1_; clear n0_ n1_; clear ho hb hg hat)))
                                go_roundg k2
                                case measure => have := HJ3.out; have := HK2.out; omega
                                case rel => exact ⟨(y122), (wrap64 (x8_2 + 1)), (wrap64 (x8_2 + 1)), (by first | rfl | (simp; done) | (simp [*]; done)), (by first | rfl | (simp; done) | (simp [*]; done)), H', ⟨by have := HJ3.out; have := HK2.out; omega⟩, ⟨by (with_reducible repeat (first | apply Kd.R_alloc | apply Kd.R_drewN | apply Kd.R_drew)); exact HO124.out⟩, ⟨by repeat (first | (with_reducible first | exact HB.out | apply below_alloc | apply pw_below_drewN | apply below_drew1) | exact HB.out)⟩⟩
                              · rw [if_neg c24] at H
                                exact absurd H (by simp)
                            · rw [if_neg c23] at H
                              exact absurd H (by simp)
                          · rw [if_neg c22] at H
                            exact absurd H (by simp)
                        · rw [if_neg c21] at H
                          exact absurd H (by simp)
                    · rw [if_neg c19] at H
                      have c19b0 : ((bt a0 x8_2) == 124) = false := beq_eq_false_iff_ne.mpr c19
                      have c19b1 : ((bt a0 x8_2) != 124) = true := bne_iff_ne.mpr c19
                      have H' := Aside0.mk H
                      clear H
                      have p18 : 0 ≤ (x8_2 : Int) := of_decide_eq_true (by first | (with_reducible assumption) | assumption)
                      have q18 : x8_2 < (a0.size : Int) := of_decide_eq_true (by first | (with_reducible assumption) | assumption)
                      have hx18 := bt_at a0 x8_2
                      replace p18 := eq_true p18
                      replace q18 := eq_true q18
                      go_wp2
                      repeat (go_quiet (fail); try go_wp2)
                      go_roundg k2
                      case measure => have := HJ3.out; have := HK2.out; omega
                      case rel => exact ⟨(x6_2), (x7_2), (wrap64 (x8_2 + 1)), (by first | rfl | (simp; done) | (simp [*]; done)), (by first | rfl | (simp; done) | (simp [*]; done)), H', ⟨by have := HJ3.out; have := HK2.out; omega⟩, ⟨by (with_reducible repeat (first | apply Kd.R_alloc | apply Kd.R_drewN | apply Kd.R_drew)); exact HO_6.out⟩, ⟨by repeat (first | (with_reducible first | exact HB.out | apply below_alloc | apply pw_below_drewN | apply below_drew1) | exact HB.out)⟩⟩
                  · rw [if_neg c17] at H
                    exact absurd H (by simp)
                · rw [if_neg c16] at H
                  exact absurd H (by simp)
              · rw [if_neg c15] at H
                have c15b0 : decide (x8_2 < (a0.size : Int)) = false := decide_eq_false c15
                clear c15
                have H' := Aside0.mk H
                clear H
                go_wp2
                repeat (go_quiet (fail); try go_wp2)
                go_loopg [9] k2 (fun kq v9 w' => ∃ (x9_3 : Int), v9 = .int .i64 x9_3 ∧ Aside0 (corporaref05_Parse.l1 kq x6_2 x9_3 = some (r1, r2)) ∧ Aside0 (kq ≤ k2) ∧ Aside0 (Kd.R Kd.string 9 w' w.heap.size (fun _ => True) u6 x6_2) ∧ Aside0 (Below w.heap.size w w'))
                case atStart => exact ⟨(1), (by first | rfl | (simp; done) | (simp [*]; done)), H', ⟨Nat.le_refl _⟩, ⟨by (with_reducible repeat (first | apply Kd.R_alloc | apply Kd.R_drewN | apply Kd.R_drew)); exact HO_6.out⟩, ⟨by repeat (first | (with_reducible first | exact HB.out | apply below_alloc | apply pw_below_drewN | apply below_drew1) | exact HB.out)⟩⟩
                case round =>
                  clear H'
                  try clear c1
                  try clear p1
                  try clear q1
                  try clear hx1
                  try clear c2
                  try clear p2
                  try clear c3
                  try clear c3b0
                  try clear c3b1
                  try clear c6
                  try clear c6b0
                  try clear c6b1
                  try clear p6
                  try clear c7
                  try clear c7b0
                  try clear c7b1
                  try clear p8
                  try clear q8
                  try clear hx8
                  try clear qi8
                  try clear c9
                  try clear c9b0
                  try clear c9b1
                  try clear c11
                  try clear c11b0
                  try clear c12
                  try clear c12b0
                  try clear c13
                  try clear p13
                  try clear q13
                  try clear hx13
                  try clear c14
                  try clear c15
                  try clear c15b0
                  try clear c16
                  try clear c16b0
                  try clear c17
                  try clear c17b0
                  try clear p18
                  try clear q18
                  try clear hx18
                  try clear c19
                  try clear c19b0
                  try clear c19b1
                  try clear c20
                  try clear c20b0
                  try clear c20b1
                  try clear c21
                  try clear c21b0
                  try clear c21b1
                  try clear c22
                  try clear c22b0
                  try clear c22b1
                  try clear c23
                  try clear c23b0
                  try clear c23b1
                  try clear c24
                  try clear p1
                  try clear p13
                  try clear p18
                  try clear p2
                  try clear p6
                  try clear p8
                  try clear q1
                  try clear q13
                  try clear q18
                  try clear q8
                  obtain ⟨x9_3, rfl, HA, HK3, HO_6, HB⟩ := hrel
                  cases gk with
                  | zero => exact absurd HA.out (by simp [corporaref05_Parse.l1])
                  | succ k3 =>
                    have H := HA.out
                    clear HA
                    simp only [corporaref05_Parse.l1] at H
                    by_cases c26 : x9_3 < (x6_2.length : Int)
                    · rw [if_pos c26] at H
                      have c26b0 : decide (x9_3 < (x6_2.length : Int)) = true := decide_eq_true c26
                      clear c26
                      obtain ⟨ji27, hji27⟩ : ∃ j_ : Int, (wrap64 (x9_3 - 1)) = j_ := ⟨_, rfl⟩
                      replace H : (if 0 ≤ (ji27) then (if (ji27) < (x6_2.length : Int) then (if 0 ≤ x9_3 then (if ((Op.bytesLess ((rdOf ByteArray.empty x6_2 (ji27)).toList) ((rdOf ByteArray.empty x6_2 x9_3).toList)) = true) then (corporaref05_Parse.l1 k3 x6_2 (wrap64 (x9_3 + 1))) else (some (([] : List ByteArray), 6))) else (none)) else (none)) else (none)) = some (r1, r2) := by first | (rw [hji27] at H; exact H) | (simp only [hji27] at H ⊢; exact H)
                      have hji27w : (IntKind.i64.wrap (x9_3 - 1)) = ji27 := (i64_w _).trans hji27
                      by_cases c28 : 0 ≤ (ji27)
                      · rw [if_pos c28] at H
                        have c28b0 : decide (0 ≤ (ji27)) = true := decide_eq_true c28
                        clear c28
                        by_cases c29 : (ji27) < (x6_2.length : Int)
                        · rw [if_pos c29] at H
                          have c29b0 : decide ((ji27) < (x6_2.length : Int)) = true := decide_eq_true c29
                          clear c29
                          by_cases c30 : 0 ≤ x9_3
                          · rw [if_pos c30] at H
                            have c30b0 : decide (0 ≤ x9_3) = true := decide_eq_true c30
                            clear c30
                            by_cases c31 : ((Op.bytesLess ((rdOf ByteArray.empty x6_2 (ji27)).toList) ((rdOf ByteArray.empty x6_2 x9_3).toList)) = true)
                            · rw [if_pos c31] at H
                              have c31b0 : (Op.bytesLess ((rdOf ByteArray.empty x6_2 (ji27)).toList) ((rdOf ByteArray.empty x6_2 x9_3).toList)) = true := c31
                              clear c31
                              have H' := Aside0.mk H
                              clear H
                              obtain ⟨Ao32, co32, eo32⟩ := Kd.R_slice HO_6.out
                              subst eo32
                              have p125 : 0 ≤ ((ji27) : Int) := of_decide_eq_true (by first | (with_reducible assumption) | assumption)
                              have q125 : (ji27) < (x6_2.length : Int) := of_decide_eq_true (by first | (with_reducible assumption) | assumption)
                              obtain ⟨ad125, e125, hx125_0⟩ := Kd.at_string (Kd.R_reads' HO_6.out).2.2 (ji27) p125 q125
                              cases e125
                              replace p125 := eq_true p125
                              replace q125 := eq_true q125
                              have p126 : 0 ≤ (x9_3 : Int) := of_decide_eq_true (by first | (with_reducible assumption) | assumption)
                              have q126 : x9_3 < (x6_2.length : Int) := of_decide_eq_true (by first | (with_reducible assumption) | assumption)
                              obtain ⟨ad126, e126, hx126_0⟩ := Kd.at_string (Kd.R_reads' HO_6.out).2.2 x9_3 p126 q126
                              obtain rfl : ad125 = ad126 := (by injection e126)
                              replace p126 := eq_true p126
                              replace q126 := eq_true q126
                              go_wp2
                              repeat (go_quiet (fail); try go_wp2)
                              go_roundg k3
                              case measure => have := HJ3.out; have := HK2.out; have := HK3.out; omega
                              case rel => exact ⟨(wrap64 (x9_3 + 1)), (by first | rfl | (simp; done) | (simp [*]; done)), H', ⟨by have := HJ3.out; have := HK2.out; have := HK3.out; omega⟩, ⟨by (with_reducible repeat (first | apply Kd.R_alloc | apply Kd.R_drewN | apply Kd.R_drew)); exact HO_6.out⟩, ⟨by repeat (first | (with_reducible first | exact HB.out | apply below_alloc | apply pw_below_drewN | apply below_drew1) | exact HB.out)⟩⟩
                            · rw [if_neg c31] at H
                              have c31b0 : (Op.bytesLess ((rdOf ByteArray.empty x6_2 (ji27)).toList) ((rdOf ByteArray.empty x6_2 x9_3).toList)) = false := by simpa using c31
                              clear c31
                              simp only [Option.some.injEq, Prod.mk.injEq] at H
                              obtain ⟨rfl, rfl⟩ := H
                              obtain ⟨Ao33, co33, eo33⟩ := Kd.R_slice HO_6.out
                              subst eo33
                              have p125 : 0 ≤ ((ji27) : Int) := of_decide_eq_true (by first | (with_reducible assumption) | assumption)
                              have q125 : (ji27) < (x6_2.length : Int) := of_decide_eq_true (by first | (with_reducible assumption) | assumption)
                              obtain ⟨ad125, e125, hx125_0⟩ := Kd.at_string (Kd.R_reads' HO_6.out).2.2 (ji27) p125 q125
                              cases e125
                              replace p125 := eq_true p125
                              replace q125 := eq_true q125
                              have p126 : 0 ≤ (x9_3 : Int) := of_decide_eq_true (by first | (with_reducible assumption) | assumption)
                              have q126 : x9_3 < (x6_2.length : Int) := of_decide_eq_true (by first | (with_reducible assumption) | assumption)
                              obtain ⟨ad126, e126, hx126_0⟩ := Kd.at_string (Kd.R_reads' HO_6.out).2.2 x9_3 p126 q126
                              obtain rfl : ad125 = ad126 := (by injection e126)
                              replace p126 := eq_true p126
                              replace q126 := eq_true q126
                              go_wp2
                              repeat (go_quiet (fail); try go_wp2)
                              go_ret2
                              exact ⟨_, by first | rfl | (simp [errW_none, errW_some] <;> rfl) | (simp only [← hji27]; first | rfl | (simp [errW_none, errW_some] <;> rfl)) | (simp [*, errW_none, errW_some] <;> rfl), by first | exact Kd.R_nil _ _ _ _ _ | exact Kd.N_nil _ _ _ _ _ | exact Kd.V_nil _ _ _ _ _ | exact Kd.Q_nil _ _ _ _ _ | exact Kd.S_nil _ _ _ _ _, by repeat (first | (with_reducible first | exact HB.out | apply below_alloc | apply pw_below_drewN | apply below_drew1) | exact HB.out)⟩
                          · rw [if_neg c30] at H
                            exact absurd H (by simp)
                        · rw [if_neg c29] at H
                          exact absurd H (by simp)
                      · rw [if_neg c28] at H
                        exact absurd H (by simp)
                    · rw [if_neg c26] at H
                      have c26b0 : decide (x9_3 < (x6_2.length : Int)) = false := decide_eq_false c26
                      clear c26
                      simp only [Option.some.injEq, Prod.mk.injEq] at H
                      obtain ⟨rfl, rfl⟩ := H
                      obtain ⟨Ao34, co34, eo34⟩ := Kd.R_slice HO_6.out
                      subst eo34
                      go_wp2
                      repeat (go_quiet (fail); try go_wp2)
                      go_ret2
                      exact ⟨_, by first | rfl | (simp [errW_none, errW_some] <;> rfl) | (simp [*, errW_none, errW_some] <;> rfl), by (with_reducible repeat (first | apply Kd.R_alloc | apply Kd.R_drewN | apply Kd.R_drew)); exact HO_6.out, by repeat (first | (with_reducible first | exact HB.out | apply below_alloc | apply pw_below_drewN | apply below_drew1) | exact HB.out)⟩
  · rw [if_neg c3] at H
    have c3b0 : (t121 == 0) = false := beq_eq_false_iff_ne.mpr c3
    have c3b1 : (t121 != 0) = true := bne_iff_ne.mpr c3
    simp only [Option.some.injEq, Prod.mk.injEq] at H
    obtain ⟨rfl, rfl⟩ := H
    go_enter Try.func13, Try.ntmps13
    go_wp2_with (first | (go_at_call 27; (with_reducible refine (corporaref04_ValidValue.calls a0 t121 _ A2.out).mono ?_); rintro e w35 ⟨rfl, hb⟩; have n0_ := Aside0.mk (below_step (by repeat (first | (with_reducible first | exact HB.out | apply below_alloc | apply pw_below_drewN | apply below_drew1) | exact HB.out)) hb); clear HB; have HB := n0_; clear n0_; (try clear hb); (try clear hb2); (try clear hk); (try clear hi)))
    repeat (go_quiet (first | (go_at_call 27; (with_reducible refine (corporaref04_ValidValue.calls a0 t121 _ A2.out).mono ?_); rintro e w35 ⟨rfl, hb⟩; have n0_ := Aside0.mk (below_step (by repeat (first | (with_reducible first | exact HB.out | apply below_alloc | apply pw_below_drewN | apply below_drew1) | exact HB.out)) hb); clear HB; have HB := n0_; clear n0_; (try clear hb); (try clear hb2); (try clear hk); (try clear hi))); try go_wp2_with (first | (go_at_call 27; (with_reducible refine (corporaref04_ValidValue.calls a0 t121 _ A2.out).mono ?_); rintro e w35 ⟨rfl, hb⟩; have n0_ := Aside0.mk (below_step (by repeat (first | (with_reducible first | exact HB.out | apply below_alloc | apply pw_below_drewN | apply below_drew1) | exact HB.out)) hb); clear HB; have HB := n0_; clear n0_; (try clear hb); (try clear hb2); (try clear hk); (try clear hi))))
    go_ret2
    exact ⟨_, by first | rfl | (simp [errW_none, errW_some] <;> rfl) | (simp [*, errW_none, errW_some] <;> rfl), by first | exact Kd.R_nil _ _ _ _ _ | exact Kd.N_nil _ _ _ _ _ | exact Kd.V_nil _ _ _ _ _ | exact Kd.Q_nil _ _ _ _ _ | exact Kd.S_nil _ _ _ _ _, by repeat (first | (with_reducible first | exact HB.out | apply below_alloc | apply pw_below_drewN | apply below_drew1) | exact HB.out)⟩

end Go.Proofs.Ytcgglamgemgeiaa.Q
/- FCorporaref05Member -/
namespace Go.Proofs.Ytcgglamgemgeiaa.Q
open Go.RowKit Go.Proofs.YtcgglamgemgeiaaW.PrintWords Go.Proofs.YtcgglamgemgeiaaW.PrintLast Go.Proofs.YtcgglamgemgeiaaW.PrintMore
attribute [local go_sem] max2_int min2_int max_two min_two max_three min_three max_four min_four   -- for this text's walks alone
set_option linter.unusedVariables false
set_option linter.unusedSimpArgs false

/-! ### corporaref05_member: function 34 -/
def corporaref05_member.l0 : Nat → ByteArray → List ByteArray → Int → Int → Option (Bool)
  | 0, _, _, _, _ => none
  | k + 1, x1, x7, x8, x9 => if x9 < x8 then (if 0 ≤ x9 then (if x9 < (x7.length : Int) then (if (rdOf ByteArray.empty x7 x9).toList = x1.toList then (some true) else (corporaref05_member.l0 k x1 x7 x8 (wrap64 (x9 + 1)))) else (none)) else (none)) else (some false)
def corporaref05_member.f (k : Nat) (l0 : List ByteArray) (a1 : ByteArray) : Option (Bool) := corporaref05_member.l0 k a1 l0 (l0.length : Int) 0
theorem corporaref05_member.mono_l : ∀ k, (∀ y0 y1 y2 y3, LeO (corporaref05_member.l0 k y0 y1 y2 y3) (corporaref05_member.l0 (k + 1) y0 y1 y2 y3))
  | 0 => fun _ _ _ _ r h => by simp [corporaref05_member.l0] at h
  | k + 1 => by
    have ih0 := corporaref05_member.mono_l k
    · intro y0 y1 y2 y3
      unfold corporaref05_member.l0
      repeat' first
      | (with_reducible exact ih0 _ _ _ _)
      | (with_reducible exact LeO.refl _)
      | (with_reducible exact LeO.none _)
      | (with_reducible refine LeO.ite ?_ ?_)
      | (with_reducible refine LeO.bind ?_ (fun _ => ?_))
      | exact ih0 _ _ _ _
      | exact LeO.none _
      | refine LeO.ite ?_ ?_
      | refine LeO.bind ?_ (fun _ => ?_)
theorem corporaref05_member.mono : ∀ a0 a1 k, LeO (corporaref05_member.f k a0 a1) (corporaref05_member.f (k + 1) a0 a1) := by
  intro a0 a1 k
  have ih0 := corporaref05_member.mono_l k
  unfold corporaref05_member.f
  repeat' first
      | (with_reducible exact ih0 _ _ _ _)
      | (with_reducible exact LeO.refl _)
      | (with_reducible exact LeO.none _)
      | (with_reducible refine LeO.ite ?_ ?_)
      | (with_reducible refine LeO.bind ?_ (fun _ => ?_))
      | exact ih0 _ _ _ _
      | exact LeO.none _
      | refine LeO.ite ?_ ?_
      | refine LeO.bind ?_ (fun _ => ?_)
set_option maxHeartbeats 8000000 in
set_option maxRecDepth 100000 in
theorem corporaref05_member.calls (k : Nat) (A0 : Option Addr) (c0 : Nat) (l0 : List ByteArray) (a1 : ByteArray) (r : Bool) (w : World) (hr0 : Kd.C Kd.string w A0 l0.length l0) (hc0 : l0.length ≤ c0) (h : corporaref05_member.f k l0 a1 = some r) :
    Calls Try.prog 34 #[.slice A0 l0.length c0, .string a1] w fun e w' => e = .returned (.bool r) ∧ Drawn0 w w' := by
  have HR0 := Aside0.mk hr0
  have HC0 := Aside0.mk hc0
  clear hr0 hc0
  have H : (corporaref05_member.l0 k a1 l0 (l0.length : Int) 0) = some r := h
  clear h
  have H' := Aside0.mk H
  clear H
  go_enter Try.func34, Try.ntmps34
  go_wp2
  go_loopg [9] k (fun kq v9 w' => ∃ (x9_1 : Int), v9 = .int .i64 x9_1 ∧ Aside0 (corporaref05_member.l0 kq a1 l0 (l0.length : Int) x9_1 = some r) ∧ Aside0 (kq ≤ k) ∧ Drawn0 w w')
  case atStart => exact ⟨(0), (by first | rfl | (simp; done) | (simp [*]; done)), H', ⟨Nat.le_refl _⟩, by repeat (first | exact Drawn0.refl _ | apply Drawn0.step)⟩
  case round =>
    clear H'
    try clear p2
    obtain ⟨x9_1, rfl, HA, HK1, ⟨m1, rfl⟩⟩ := hrel
    cases gk with
    | zero => exact absurd HA.out (by simp [corporaref05_member.l0])
    | succ k1 =>
      have H := HA.out
      clear HA
      simp only [corporaref05_member.l0] at H
      by_cases c3 : x9_1 < (l0.length : Int)
      · rw [if_pos c3] at H
        have c3b0 : decide (x9_1 < (l0.length : Int)) = true := decide_eq_true c3
        clear c3
        by_cases c4 : 0 ≤ x9_1
        · rw [if_pos c4] at H
          have c4b0 : decide (0 ≤ x9_1) = true := decide_eq_true c4
          clear c4
          by_cases c5 : x9_1 < (l0.length : Int)
          · rw [if_pos c5] at H
            have c5b0 : decide (x9_1 < (l0.length : Int)) = true := decide_eq_true c5
            clear c5
            by_cases c6 : (rdOf ByteArray.empty l0 x9_1).toList = a1.toList
            · rw [if_pos c6] at H
              have c6b0 : ((rdOf ByteArray.empty l0 x9_1).toList == a1.toList) = true := beq_iff_eq.mpr c6
              have c6b1 : ((rdOf ByteArray.empty l0 x9_1).toList != a1.toList) = false := bne_eq_false_iff_eq.mpr c6
              clear c6
              obtain rfl := Option.some.inj H
              have p326 : 0 ≤ (x9_1 : Int) := of_decide_eq_true (by first | (with_reducible assumption) | assumption)
              have q326 : x9_1 < (l0.length : Int) := of_decide_eq_true (by first | (with_reducible assumption) | assumption)
              obtain ⟨ad326, e326, hx326_0⟩ := Kd.at_string HR0.out x9_1 p326 q326
              cases e326
              replace p326 := eq_true p326
              replace q326 := eq_true q326
              go_wp2
              go_ret
              exact ⟨by first | rfl | (simp; done) | (simp [*]; done), by repeat (first | exact Drawn0.refl _ | apply Drawn0.step)⟩
            · rw [if_neg c6] at H
              have c6b0 : ((rdOf ByteArray.empty l0 x9_1).toList == a1.toList) = false := beq_eq_false_iff_ne.mpr c6
              have c6b1 : ((rdOf ByteArray.empty l0 x9_1).toList != a1.toList) = true := bne_iff_ne.mpr c6
              have H' := Aside0.mk H
              clear H
              have p326 : 0 ≤ (x9_1 : Int) := of_decide_eq_true (by first | (with_reducible assumption) | assumption)
              have q326 : x9_1 < (l0.length : Int) := of_decide_eq_true (by first | (with_reducible assumption) | assumption)
              obtain ⟨ad326, e326, hx326_0⟩ := Kd.at_string HR0.out x9_1 p326 q326
              cases e326
              replace p326 := eq_true p326
              replace q326 := eq_true q326
              go_wp2
              go_roundg k1
              case measure => have := HK1.out; omega
              case rel => exact ⟨(wrap64 (x9_1 + 1)), (by first | rfl | (simp; done) | (simp [*]; done)), H', ⟨by have := HK1.out; omega⟩, by repeat (first | exact Drawn0.refl _ | apply Drawn0.step)⟩
          · rw [if_neg c5] at H
            exact absurd H (by simp)
        · rw [if_neg c4] at H
          exact absurd H (by simp)
      · rw [if_neg c3] at H
        have c3b0 : decide (x9_1 < (l0.length : Int)) = false := decide_eq_false c3
        clear c3
        obtain rfl := Option.some.inj H
        go_wp2
        go_ret
        exact ⟨by first | rfl | (simp; done) | (simp [*]; done), by repeat (first | exact Drawn0.refl _ | apply Drawn0.step)⟩

end Go.Proofs.Ytcgglamgemgeiaa.Q
/- FCorporaref05Has -/
namespace Go.Proofs.Ytcgglamgemgeiaa.Q
open Go.RowKit Go.Proofs.YtcgglamgemgeiaaW.PrintWords Go.Proofs.YtcgglamgemgeiaaW.PrintLast Go.Proofs.YtcgglamgemgeiaaW.PrintMore
attribute [local go_sem] max2_int min2_int max_two min_two max_three min_three max_four min_four   -- for this text's walks alone
set_option linter.unusedVariables false
set_option linter.unusedSimpArgs false

/-! ### corporaref05_Has: function 19 -/
def corporaref05_Has.f (k : Nat) (a0 : ByteArray) (a1 : ByteArray) : Option (Bool) := (corporaref05_Parse.f k a0).bind fun bt327 => (if bt327.2 = 0 then ((corporaref05_member.f k bt327.1 a1).bind fun t331 => (some t331)) else (some false))
theorem corporaref05_Has.mono : ∀ a0 a1 k, LeO (corporaref05_Has.f k a0 a1) (corporaref05_Has.f (k + 1) a0 a1) := by
  intro a0 a1 k
  unfold corporaref05_Has.f
  repeat' first
      | (with_reducible exact corporaref05_Parse.mono _ _)
      | (with_reducible exact corporaref05_member.mono _ _ _)
      | (with_reducible exact LeO.refl _)
      | (with_reducible exact LeO.none _)
      | (with_reducible refine LeO.ite ?_ ?_)
      | (with_reducible refine LeO.bind ?_ (fun _ => ?_))
      | exact corporaref05_Parse.mono _ _
      | exact corporaref05_member.mono _ _ _
      | exact LeO.none _
      | refine LeO.ite ?_ ?_
      | refine LeO.bind ?_ (fun _ => ?_)
set_option maxHeartbeats 8000000 in
set_option maxRecDepth 100000 in
theorem corporaref05_Has.calls (k : Nat) (a0 : ByteArray) (a1 : ByteArray) (r : Bool) (w : World) (h : corporaref05_Has.f k a0 a1 = some r) :
    Calls Try.prog 19 #[.string a0, .string a1] w fun e w' => e = .returned (.bool r) ∧ Below w.heap.size w w' := by
  have HB := Aside0.mk (Below.refl w.heap.size w)
  have H : ((corporaref05_Parse.f k a0).bind fun bt327 => (if bt327.2 = 0 then ((corporaref05_member.f k bt327.1 a1).bind fun t331 => (some t331)) else (some false))) = some r := h
  clear h
  replace H := Option.bind_eq_some_iff.mp H
  obtain ⟨⟨t327, t328⟩, A30, H⟩ := H
  replace H : (if t328 = 0 then ((corporaref05_member.f k t327 a1).bind fun t331 => (some t331)) else (some false)) = some r := H
  have A3 := Aside0.mk A30
  clear A30
  by_cases c4 : t328 = 0
  · rw [if_pos c4] at H
    have c4b0 : (t328 == 0) = true := beq_iff_eq.mpr c4
    have c4b1 : (t328 != 0) = false := bne_eq_false_iff_eq.mpr c4
    clear c4
    replace H := Option.bind_eq_some_iff.mp H
    obtain ⟨t331, A50, H⟩ := H
    replace H : (some t331) = some r := H
    have A5 := Aside0.mk A50
    clear A50
    obtain rfl := Option.some.inj H
    go_enter Try.func19, Try.ntmps19
    go_wp2_with (first | ((with_reducible refine gate_callee (f := 13) rfl ?_); refine goesL_ (some 9) rfl rfl Try.func13 (by kernel_rfl) rfl #[.string a0] rfl (by (try simp only [List.map_toArray, List.map_cons, List.map_nil]); first | done | rfl | (simp only [List.length_drop, List.length_take]; rfl)) ?_; (with_reducible refine (corporaref05_Parse.calls k a0 t327 t328 _ A3.out).mono ?_); rintro e w6 ⟨v329, rfl, ho0, hb⟩; refine ⟨_, rfl, ?_⟩; have n0_ := Aside0.mk (Kd.R_lower ho0 (below_size (by repeat (first | (with_reducible first | exact HB.out | apply below_alloc | apply pw_below_drewN | apply below_drew1) | exact HB.out)))); have n1_ := Aside0.mk (below_step (by repeat (first | (with_reducible first | exact HB.out | apply below_alloc | apply pw_below_drewN | apply below_drew1) | exact HB.out)) hb); clear HB; have HO330 := n0_; have HB := n1_; clear n0_ n1_; (try clear hb); (try clear hb2); (try clear hk); (try clear hi); (try clear ho0); obtain ⟨Ao7, co7, eo7⟩ := Kd.R_slice HO330.out; subst eo7) | (go_at_call 34; (with_reducible refine (corporaref05_member.calls k _ _ t327 a1 t331 _ ?side1 ?side2 A5.out).mono ?_); (case side1 => repeat (first | exact (Kd.R_reads' HO330.out).2.2 | (with_reducible refine Kd.C_alloc ?_ _) | (with_reducible refine Kd.C_drewN ?_ _) | (with_reducible refine Kd.C_drew ?_))); (case side2 => exact (Kd.R_reads' HO330.out).2.1); rintro e w' ⟨rfl, ⟨nd, rfl⟩⟩))
    go_ret
    exact ⟨by first | rfl | (simp [errW_none, errW_some] <;> rfl) | (simp [*, errW_none, errW_some] <;> rfl), by repeat (first | (with_reducible first | exact HB.out | apply below_alloc | apply pw_below_drewN | apply below_drew1) | exact HB.out)⟩
  · rw [if_neg c4] at H
    have c4b0 : (t328 == 0) = false := beq_eq_false_iff_ne.mpr c4
    have c4b1 : (t328 != 0) = true := bne_iff_ne.mpr c4
    obtain rfl := Option.some.inj H
    go_enter Try.func19, Try.ntmps19
    go_wp2_with (first | ((with_reducible refine gate_callee (f := 13) rfl ?_); refine goesL_ (some 9) rfl rfl Try.func13 (by kernel_rfl) rfl #[.string a0] rfl (by (try simp only [List.map_toArray, List.map_cons, List.map_nil]); first | done | rfl | (simp only [List.length_drop, List.length_take]; rfl)) ?_; (with_reducible refine (corporaref05_Parse.calls k a0 t327 t328 _ A3.out).mono ?_); rintro e w8 ⟨v329, rfl, ho0, hb⟩; refine ⟨_, rfl, ?_⟩; have n0_ := Aside0.mk (Kd.R_lower ho0 (below_size (by repeat (first | (with_reducible first | exact HB.out | apply below_alloc | apply pw_below_drewN | apply below_drew1) | exact HB.out)))); have n1_ := Aside0.mk (below_step (by repeat (first | (with_reducible first | exact HB.out | apply below_alloc | apply pw_below_drewN | apply below_drew1) | exact HB.out)) hb); clear HB; have HO330 := n0_; have HB := n1_; clear n0_ n1_; (try clear hb); (try clear hb2); (try clear hk); (try clear hi); (try clear ho0)))
    go_ret
    exact ⟨by first | rfl | (simp [errW_none, errW_some] <;> rfl) | (simp [*, errW_none, errW_some] <;> rfl), by repeat (first | (with_reducible first | exact HB.out | apply below_alloc | apply pw_below_drewN | apply below_drew1) | exact HB.out)⟩

end Go.Proofs.Ytcgglamgemgeiaa.Q
/- FCorporaref05Union -/
namespace Go.Proofs.Ytcgglamgemgeiaa.Q
open Go.RowKit Go.Proofs.YtcgglamgemgeiaaW.PrintWords Go.Proofs.YtcgglamgemgeiaaW.PrintLast Go.Proofs.YtcgglamgemgeiaaW.PrintMore
attribute [local go_sem] max2_int min2_int max_two min_two max_three min_three max_four min_four   -- for this text's walks alone
set_option linter.unusedVariables false
set_option linter.unusedSimpArgs false

/-! ### corporaref05_Union: function 22 -/
def corporaref05_Union.f (k : Nat) (a0 : ByteArray) (a1 : ByteArray) : Option (ByteArray × Int) := (corporaref05_Parse.f k a0).bind fun bt383 => (if bt383.2 = 0 then ((corporaref05_Parse.f k a1).bind fun bt387 => (if bt387.2 = 0 then (if ([] : List ByteArray).length + bt383.1.length < 8796093022208 then ((some (([] : List ByteArray) ++ bt383.1 : List ByteArray)).bind fun y391 => (if y391.length + bt387.1.length < 8796093022208 then ((corporaref05_Format.f k (y391 ++ bt387.1)).bind fun bt397 => (some (bt397.1, bt397.2))) else (none))) else (none)) else (some ((⟨#[]⟩ : ByteArray), bt387.2)))) else (some ((⟨#[]⟩ : ByteArray), bt383.2)))
theorem corporaref05_Union.mono : ∀ a0 a1 k, LeO (corporaref05_Union.f k a0 a1) (corporaref05_Union.f (k + 1) a0 a1) := by
  intro a0 a1 k
  unfold corporaref05_Union.f
  repeat' first
      | (with_reducible exact corporaref05_Format.mono _ _)
      | (with_reducible exact corporaref05_Parse.mono _ _)
      | (with_reducible exact LeO.refl _)
      | (with_reducible exact LeO.none _)
      | (with_reducible refine LeO.ite ?_ ?_)
      | (with_reducible refine LeO.bind ?_ (fun _ => ?_))
      | exact corporaref05_Format.mono _ _
      | exact corporaref05_Parse.mono _ _
      | exact LeO.none _
      | refine LeO.ite ?_ ?_
      | refine LeO.bind ?_ (fun _ => ?_)
set_option maxHeartbeats 8000000 in
set_option maxRecDepth 100000 in
theorem corporaref05_Union.calls (k : Nat) (a0 : ByteArray) (a1 : ByteArray) (r1 : ByteArray) (r2 : Int) (w : World) (h : corporaref05_Union.f k a0 a1 = some (r1, r2)) :
    Calls Try.prog 22 #[.string a0, .string a1] w fun e w' => e = .returned (.tuple #[.string r1, .int .i64 r2]) ∧ Below w.heap.size w w' := by
  have HB := Aside0.mk (Below.refl w.heap.size w)
  have H : ((corporaref05_Parse.f k a0).bind fun bt383 => (if bt383.2 = 0 then ((corporaref05_Parse.f k a1).bind fun bt387 => (if bt387.2 = 0 then (if ([] : List ByteArray).length + bt383.1.length < 8796093022208 then ((some (([] : List ByteArray) ++ bt383.1 : List ByteArray)).bind fun y391 => (if y391.length + bt387.1.length < 8796093022208 then ((corporaref05_Format.f k (y391 ++ bt387.1)).bind fun bt397 => (some (bt397.1, bt397.2))) else (none))) else (none)) else (some ((⟨#[]⟩ : ByteArray), bt387.2)))) else (some ((⟨#[]⟩ : ByteArray), bt383.2)))) = some (r1, r2) := h
  clear h
  replace H := Option.bind_eq_some_iff.mp H
  obtain ⟨⟨t383, t384⟩, A30, H⟩ := H
  replace H : (if t384 = 0 then ((corporaref05_Parse.f k a1).bind fun bt387 => (if bt387.2 = 0 then (if ([] : List ByteArray).length + t383.length < 8796093022208 then ((some (([] : List ByteArray) ++ t383 : List ByteArray)).bind fun y391 => (if y391.length + bt387.1.length < 8796093022208 then ((corporaref05_Format.f k (y391 ++ bt387.1)).bind fun bt397 => (some (bt397.1, bt397.2))) else (none))) else (none)) else (some ((⟨#[]⟩ : ByteArray), bt387.2)))) else (some ((⟨#[]⟩ : ByteArray), t384))) = some (r1, r2) := H
  have A3 := Aside0.mk A30
  clear A30
  by_cases c4 : t384 = 0
  · rw [if_pos c4] at H
    have c4b0 : (t384 == 0) = true := beq_iff_eq.mpr c4
    have c4b1 : (t384 != 0) = false := bne_eq_false_iff_eq.mpr c4
    clear c4
    replace H := Option.bind_eq_some_iff.mp H
    obtain ⟨⟨t387, t388⟩, A50, H⟩ := H
    replace H : (if t388 = 0 then (if ([] : List ByteArray).length + t383.length < 8796093022208 then ((some (([] : List ByteArray) ++ t383 : List ByteArray)).bind fun y391 => (if y391.length + t387.length < 8796093022208 then ((corporaref05_Format.f k (y391 ++ t387)).bind fun bt397 => (some (bt397.1, bt397.2))) else (none))) else (none)) else (some ((⟨#[]⟩ : ByteArray), t388))) = some (r1, r2) := H
    have A5 := Aside0.mk A50
    clear A50
    by_cases c6 : t388 = 0
    · rw [if_pos c6] at H
      have c6b0 : (t388 == 0) = true := beq_iff_eq.mpr c6
      have c6b1 : (t388 != 0) = false := bne_eq_false_iff_eq.mpr c6
      clear c6
      by_cases c7 : ([] : List ByteArray).length + t383.length < 8796093022208
      · rw [if_pos c7] at H
        have LMc7 := Aside0.mk c7
        clear c7
        obtain ⟨y391, hy391⟩ : ∃ y_ : List ByteArray, y_ = (([] : List ByteArray) ++ t383) := ⟨_, rfl⟩
        replace H : (if y391.length + t387.length < 8796093022208 then ((corporaref05_Format.f k (y391 ++ t387)).bind fun bt397 => (some (bt397.1, bt397.2))) else (none)) = some (r1, r2) := by first | (rw [hy391]; with_reducible exact H) | (have H2_ := (Option.bind_some _ _).symm.trans H; rw [hy391]; with_reducible exact H2_) | (have H2_ := (Option.bind_some _ _).symm.trans H; with_reducible exact H2_) | with_reducible exact H | (rw [hy391]; exact H) | exact H
        have Ny391 := Aside0.mk hy391
        clear hy391
        by_cases c8 : y391.length + t387.length < 8796093022208
        · rw [if_pos c8] at H
          have LMc8 := Aside0.mk c8
          clear c8
          obtain ⟨y394, hy394⟩ : ∃ y_ : List ByteArray, y_ = (y391 ++ t387) := ⟨_, rfl⟩
          replace H : ((corporaref05_Format.f k y394).bind fun bt397 => (some (bt397.1, bt397.2))) = some (r1, r2) := by first | (rw [hy394]; with_reducible exact H) | (have H2_ := (Option.bind_some _ _).symm.trans H; rw [hy394]; with_reducible exact H2_) | (have H2_ := (Option.bind_some _ _).symm.trans H; with_reducible exact H2_) | with_reducible exact H | (rw [hy394]; exact H) | exact H
          have Ny394 := Aside0.mk hy394
          clear hy394
          replace H := Option.bind_eq_some_iff.mp H
          obtain ⟨⟨t397, t398⟩, A90, H⟩ := H
          replace H : (some (t397, t398)) = some (r1, r2) := H
          have A9 := Aside0.mk A90
          clear A90
          simp only [Option.some.injEq, Prod.mk.injEq] at H
          obtain ⟨rfl, rfl⟩ := H
          go_enter Try.func22, Try.ntmps22
          go_wp2_with (first | ((with_reducible refine gate_callee (f := 13) rfl ?_); refine goesL_ (some 11) rfl rfl Try.func13 (by kernel_rfl) rfl #[.string a0] rfl (by (try simp only [List.map_toArray, List.map_cons, List.map_nil]); first | done | rfl | (simp only [List.length_drop, List.length_take]; rfl)) ?_; (with_reducible refine (corporaref05_Parse.calls k a0 t383 t384 _ A3.out).mono ?_); rintro e w10 ⟨v385, rfl, ho0, hb⟩; refine ⟨_, rfl, ?_⟩; have n0_ := Aside0.mk (Kd.R_lower ho0 (below_size (by repeat (first | (with_reducible first | exact HB.out | apply below_alloc | apply pw_below_drewN | apply below_drew1) | exact HB.out)))); have n1_ := Aside0.mk (below_step (by repeat (first | (with_reducible first | exact HB.out | apply below_alloc | apply pw_below_drewN | apply below_drew1) | exact HB.out)) hb); clear HB; have HO386 := n0_; have HB := n1_; clear n0_ n1_; (try clear hb); (try clear hb2); (try clear hk); (try clear hi); (try clear ho0)) | ((with_reducible refine gate_callee (f := 13) rfl ?_); refine goesL_ (some 19) rfl rfl Try.func13 (by kernel_rfl) rfl #[.string a1] rfl (by (try simp only [List.map_toArray, List.map_cons, List.map_nil]); first | done | rfl | (simp only [List.length_drop, List.length_take]; rfl)) ?_; (with_reducible refine (corporaref05_Parse.calls k a1 t387 t388 _ A5.out).mono ?_); rintro e w11 ⟨v389, rfl, ho0, hb⟩; refine ⟨_, rfl, ?_⟩; have n0_ := Aside0.mk (Kd.R_elder' (by (with_reducible repeat (first | apply Kd.R_alloc | apply Kd.R_drewN | apply Kd.R_drew)); exact HO386.out) (Kd.R_base ho0) hb); have n1_ := Aside0.mk (Kd.R_lower (Kd.R_new' ho0 (Kd.R_lt (by (with_reducible repeat (first | apply Kd.R_alloc | apply Kd.R_drewN | apply Kd.R_drew)); exact HO386.out))) (below_size (by repeat (first | (with_reducible first | exact HB.out | apply below_alloc | apply pw_below_drewN | apply below_drew1) | exact HB.out)))); have n2_ := Aside0.mk (below_step (by repeat (first | (with_reducible first | exact HB.out | apply below_alloc | apply pw_below_drewN | apply below_drew1) | exact HB.out)) hb); clear HO386; clear HB; have HO386 := n0_; have HO390 := n1_; have HB := n2_; clear n0_ n1_ n2_; (try clear hb); (try clear hb2); (try clear hk); (try clear hi); (try clear ho0); obtain ⟨Ao13, co13, eo13⟩ := Kd.R_slice HO386.out; subst eo13) | ((with_reducible refine gate_builtin (b := .append) (xs := #[.const (.slice none 0 0), .tmp 25]) rfl ?_); at_builtin; refine Kd.R_append_rows Kd.string (w0 := w) w.heap.size rfl (.const (.slice none 0 0)) (.tmp 25) 23 9 (.string ⟨#[]⟩) 16 rfl Try.underlying23 info9 rfl (by decide) (by omega) (.slice none 0 0) ([] : List ByteArray) t383 _ _ _ (fun k_ => some k_ ≠ (.slice Ao13 t383.length co13 : Value).ownBlock ∧ some k_ ≠ (v389 : Value).ownBlock) (fun _ => False) rfl rfl ?aO ?aR (fun _ _ h => h) (fun _ h => h.elim) ?aF ?aB ?aS ?aL ?_; (case aR => repeat (first | exact (Kd.R_reads' HO386.out).2.2 | (with_reducible refine Kd.C_alloc ?_ _) | (with_reducible refine Kd.C_drewN ?_ _) | (with_reducible refine Kd.C_drew ?_))); (case aB => exact (by repeat (first | (with_reducible first | exact HB.out | apply below_alloc | apply pw_below_drewN | apply below_drew1) | exact HB.out))); (case aF => exact (fun k_ hk => ⟨Kd.fresh' (Kd.R_lt (by (with_reducible repeat (first | apply Kd.R_alloc | apply Kd.R_drewN | apply Kd.R_drew)); exact HO386.out)) k_ hk, Kd.fresh' (Kd.R_lt (by (with_reducible repeat (first | apply Kd.R_alloc | apply Kd.R_drewN | apply Kd.R_drew)); exact HO390.out)) k_ hk⟩)); (case aO => exact ((Kd.R_nil _ _ _ _ (fun k_ => some k_ ≠ (.slice Ao13 t383.length co13 : Value).ownBlock ∧ some k_ ≠ (v389 : Value).ownBlock)))); (case aS => exact (below_size (by repeat (first | (with_reducible first | exact HB.out | apply below_alloc | apply pw_below_drewN | apply below_drew1) | exact HB.out)))); (case aL => have := LMc7.out; omega); intro v392 w12 ho hb hg hat; rw [← Ny391.out] at ho; have n0_ := Aside0.mk (Kd.R_after (Kd.R_apart_nil (by (with_reducible repeat (first | apply Kd.R_alloc | apply Kd.R_drewN | apply Kd.R_drew)); exact HO386.out)) hg hat); have n1_ := Aside0.mk (Kd.R_after (Kd.R_apart_nil (by (with_reducible repeat (first | apply Kd.R_alloc | apply Kd.R_drewN | apply Kd.R_drew)); exact HO390.out)) hg hat); have n2_ := Aside0.mk (hb); have n3_ := Aside0.mk (ho); clear HO386; clear HO390; clear HB; have HO386 := n0_; have HO390 := n1_; have HB := n2_; have HO393 := n3_; clear n0_ n1_ n2_ n3_; clear ho hb hg hat; obtain ⟨Ao15, co15, eo15⟩ := Kd.R_slice HO390.out; subst eo15) | ((with_reducible refine gate_builtin (b := .append) (xs := #[.tmp 26, .tmp 27]) rfl ?_); at_builtin; refine Kd.R_append_rows Kd.string (w0 := w) w.heap.size rfl (.tmp 26) (.tmp 27) 23 9 (.string ⟨#[]⟩) 16 rfl Try.underlying23 info9 rfl (by decide) (by omega) v392 y391 t387 _ _ _ (fun k_ => some k_ ≠ (.slice Ao13 t383.length co13 : Value).ownBlock ∧ some k_ ≠ (.slice Ao15 t387.length co15 : Value).ownBlock) (fun _ => False) rfl rfl ?aO ?aR (fun _ _ h => h) (fun _ h => h.elim) ?aF ?aB ?aS ?aL ?_; (case aR => repeat (first | exact (Kd.R_reads' HO390.out).2.2 | (with_reducible refine Kd.C_alloc ?_ _) | (with_reducible refine Kd.C_drewN ?_ _) | (with_reducible refine Kd.C_drew ?_))); (case aB => exact (by repeat (first | (with_reducible first | exact HB.out | apply below_alloc | apply pw_below_drewN | apply below_drew1) | exact HB.out))); (case aF => exact (fun k_ hk => ⟨Kd.fresh' (Kd.R_lt (by (with_reducible repeat (first | apply Kd.R_alloc | apply Kd.R_drewN | apply Kd.R_drew)); exact HO386.out)) k_ hk, Kd.fresh' (Kd.R_lt (by (with_reducible repeat (first | apply Kd.R_alloc | apply Kd.R_drewN | apply Kd.R_drew)); exact HO390.out)) k_ hk⟩)); (case aO => exact (by (with_reducible repeat (first | apply Kd.R_alloc | apply Kd.R_drewN | apply Kd.R_drew)); exact HO393.out)); (case aS => exact (below_size (by repeat (first | (with_reducible first | exact HB.out | apply below_alloc | apply pw_below_drewN | apply below_drew1) | exact HB.out)))); (case aL => have := LMc8.out; omega); intro v395 w14 ho hb hg hat; rw [← Ny394.out] at ho; have n0_ := Aside0.mk (Kd.R_after (ok := (fun k_ => some k_ ≠ (.slice Ao15 t387.length co15 : Value).ownBlock)) (by (with_reducible repeat (first | apply Kd.R_alloc | apply Kd.R_drewN | apply Kd.R_drew)); exact Kd.R_mono HO386.out (fun _ hk => ⟨hk.1.2, hk.2⟩)) hg hat); have n1_ := Aside0.mk (Kd.R_after (ok := (fun k_ => some k_ ≠ (.slice Ao13 t383.length co13 : Value).ownBlock)) (by (with_reducible repeat (first | apply Kd.R_alloc | apply Kd.R_drewN | apply Kd.R_drew)); exact Kd.R_mono HO390.out (fun _ hk => ⟨hk.1.2, hk.2⟩)) hg hat); have n2_ := Aside0.mk (hb); have n3_ := Aside0.mk (ho); clear HO386; clear HO390; clear HB; clear HO393; have HO386 := n0_; have HO390 := n1_; have HB := n2_; have HO396 := n3_; clear n0_ n1_ n2_ n3_; clear ho hb hg hat; obtain ⟨Ao16, co16, eo16⟩ := Kd.R_slice HO396.out; subst eo16) | ((with_reducible refine gate_callee (f := 17) rfl ?_); refine goesL_ (some 29) rfl rfl Try.func17 (by kernel_rfl) rfl #[.slice Ao16 y394.length co16] rfl (by (try simp only [List.map_toArray, List.map_cons, List.map_nil]); first | done | rfl | (simp only [List.length_drop, List.length_take]; rfl)) ?_; (with_reducible refine (corporaref05_Format.calls k _ _ y394 t397 t398 _ ?side1 ?side2 A9.out).mono ?_); (case side1 => repeat (first | exact (Kd.R_reads' HO396.out).2.2 | (with_reducible refine Kd.C_alloc ?_ _) | (with_reducible refine Kd.C_drewN ?_ _) | (with_reducible refine Kd.C_drew ?_))); (case side2 => exact (Kd.R_reads' HO396.out).2.1); rintro e w17 ⟨rfl, hb⟩; refine ⟨_, rfl, ?_⟩; have n0_ := Aside0.mk (Kd.R_below (by (with_reducible repeat (first | apply Kd.R_alloc | apply Kd.R_drewN | apply Kd.R_drew)); exact HO386.out) hb); have n1_ := Aside0.mk (Kd.R_below (by (with_reducible repeat (first | apply Kd.R_alloc | apply Kd.R_drewN | apply Kd.R_drew)); exact HO390.out) hb); have n2_ := Aside0.mk (Kd.R_below (by (with_reducible repeat (first | apply Kd.R_alloc | apply Kd.R_drewN | apply Kd.R_drew)); exact HO396.out) hb); have n3_ := Aside0.mk (below_step (by repeat (first | (with_reducible first | exact HB.out | apply below_alloc | apply pw_below_drewN | apply below_drew1) | exact HB.out)) hb); clear HO386; clear HO390; clear HO396; clear HB; have HO386 := n0_; have HO390 := n1_; have HO396 := n2_; have HB := n3_; clear n0_ n1_ n2_ n3_; (try clear hb); (try clear hb2); (try clear hk); (try clear hi)))
          go_ret2
          exact ⟨by first | rfl | (simp [errW_none, errW_some] <;> rfl) | (simp [*, errW_none, errW_some] <;> rfl), by repeat (first | (with_reducible first | exact HB.out | apply below_alloc | apply pw_below_drewN | apply below_drew1) | exact HB.out)⟩
        · rw [if_neg c8] at H
          exact absurd H (by simp)
      · rw [if_neg c7] at H
        exact absurd H (by simp)
    · rw [if_neg c6] at H
      have c6b0 : (t388 == 0) = false := beq_eq_false_iff_ne.mpr c6
      have c6b1 : (t388 != 0) = true := bne_iff_ne.mpr c6
      simp only [Option.some.injEq, Prod.mk.injEq] at H
      obtain ⟨rfl, rfl⟩ := H
      go_enter Try.func22, Try.ntmps22
      go_wp2_with (first | ((with_reducible refine gate_callee (f := 13) rfl ?_); refine goesL_ (some 11) rfl rfl Try.func13 (by kernel_rfl) rfl #[.string a0] rfl (by (try simp only [List.map_toArray, List.map_cons, List.map_nil]); first | done | rfl | (simp only [List.length_drop, List.length_take]; rfl)) ?_; (with_reducible refine (corporaref05_Parse.calls k a0 t383 t384 _ A3.out).mono ?_); rintro e w18 ⟨v385, rfl, ho0, hb⟩; refine ⟨_, rfl, ?_⟩; have n0_ := Aside0.mk (Kd.R_lower ho0 (below_size (by repeat (first | (with_reducible first | exact HB.out | apply below_alloc | apply pw_below_drewN | apply below_drew1) | exact HB.out)))); have n1_ := Aside0.mk (below_step (by repeat (first | (with_reducible first | exact HB.out | apply below_alloc | apply pw_below_drewN | apply below_drew1) | exact HB.out)) hb); clear HB; have HO386 := n0_; have HB := n1_; clear n0_ n1_; (try clear hb); (try clear hb2); (try clear hk); (try clear hi); (try clear ho0)) | ((with_reducible refine gate_callee (f := 13) rfl ?_); refine goesL_ (some 19) rfl rfl Try.func13 (by kernel_rfl) rfl #[.string a1] rfl (by (try simp only [List.map_toArray, List.map_cons, List.map_nil]); first | done | rfl | (simp only [List.length_drop, List.length_take]; rfl)) ?_; (with_reducible refine (corporaref05_Parse.calls k a1 t387 t388 _ A5.out).mono ?_); rintro e w19 ⟨v389, rfl, ho0, hb⟩; refine ⟨_, rfl, ?_⟩; have n0_ := Aside0.mk (Kd.R_elder' (by (with_reducible repeat (first | apply Kd.R_alloc | apply Kd.R_drewN | apply Kd.R_drew)); exact HO386.out) (Kd.R_base ho0) hb); have n1_ := Aside0.mk (Kd.R_lower (Kd.R_new' ho0 (Kd.R_lt (by (with_reducible repeat (first | apply Kd.R_alloc | apply Kd.R_drewN | apply Kd.R_drew)); exact HO386.out))) (below_size (by repeat (first | (with_reducible first | exact HB.out | apply below_alloc | apply pw_below_drewN | apply below_drew1) | exact HB.out)))); have n2_ := Aside0.mk (below_step (by repeat (first | (with_reducible first | exact HB.out | apply below_alloc | apply pw_below_drewN | apply below_drew1) | exact HB.out)) hb); clear HO386; clear HB; have HO386 := n0_; have HO390 := n1_; have HB := n2_; clear n0_ n1_ n2_; (try clear hb); (try clear hb2); (try clear hk); (try clear hi); (try clear ho0)))
      go_ret2
      exact ⟨by first | rfl | (simp [errW_none, errW_some] <;> rfl) | (simp [*, errW_none, errW_some] <;> rfl), by repeat (first | (with_reducible first | exact HB.out | apply below_alloc | apply pw_below_drewN | apply below_drew1) | exact HB.out)⟩
  · rw [if_neg c4] at H
    have c4b0 : (t384 == 0) = false := beq_eq_false_iff_ne.mpr c4
    have c4b1 : (t384 != 0) = true := bne_iff_ne.mpr c4
    simp only [Option.some.injEq, Prod.mk.injEq] at H
    obtain ⟨rfl, rfl⟩ := H
    go_enter Try.func22, Try.ntmps22
    go_wp2_with (first | ((with_reducible refine gate_callee (f := 13) rfl ?_); refine goesL_ (some 11) rfl rfl Try.func13 (by kernel_rfl) rfl #[.string a0] rfl (by (try simp only [List.map_toArray, List.map_cons, List.map_nil]); first | done | rfl | (simp only [List.length_drop, List.length_take]; rfl)) ?_; (with_reducible refine (corporaref05_Parse.calls k a0 t383 t384 _ A3.out).mono ?_); rintro e w20 ⟨v385, rfl, ho0, hb⟩; refine ⟨_, rfl, ?_⟩; have n0_ := Aside0.mk (Kd.R_lower ho0 (below_size (by repeat (first | (with_reducible first | exact HB.out | apply below_alloc | apply pw_below_drewN | apply below_drew1) | exact HB.out)))); have n1_ := Aside0.mk (below_step (by repeat (first | (with_reducible first | exact HB.out | apply below_alloc | apply pw_below_drewN | apply below_drew1) | exact HB.out)) hb); clear HB; have HO386 := n0_; have HB := n1_; clear n0_ n1_; (try clear hb); (try clear hb2); (try clear hk); (try clear hi); (try clear ho0)))
    go_ret2
    exact ⟨by first | rfl | (simp [errW_none, errW_some] <;> rfl) | (simp [*, errW_none, errW_some] <;> rfl), by repeat (first | (with_reducible first | exact HB.out | apply below_alloc | apply pw_below_drewN | apply below_drew1) | exact HB.out)⟩

end Go.Proofs.Ytcgglamgemgeiaa.Q
/- FCorporaref05Intersect -/
namespace Go.Proofs.Ytcgglamgemgeiaa.Q
open Go.RowKit Go.Proofs.YtcgglamgemgeiaaW.PrintWords Go.Proofs.YtcgglamgemgeiaaW.PrintLast Go.Proofs.YtcgglamgemgeiaaW.PrintMore
attribute [local go_sem] max2_int min2_int max_two min_two max_three min_three max_four min_four   -- for this text's walks alone
set_option linter.unusedVariables false
set_option linter.unusedSimpArgs false

/-! ### corporaref05_Intersect: function 23 -/
def corporaref05_Intersect.l0 : Nat → List ByteArray → List ByteArray → List ByteArray → Int → Int → Option (ByteArray × Int)
  | 0, _, _, _, _, _ => none
  | k + 1, x8, x9, x28, x29, x30 => if x30 < x29 then (if 0 ≤ x30 then (if x30 < (x28.length : Int) then ((corporaref05_member.f k x8 (rdOf ByteArray.empty x28 x30)).bind fun t408 => (if t408 = true then (if x9.length < 8796093022208 then (corporaref05_Intersect.l0 k x8 (x9 ++ [rdOf ByteArray.empty x28 x30]) x28 x29 (wrap64 (x30 + 1))) else (none)) else (corporaref05_Intersect.l0 k x8 x9 x28 x29 (wrap64 (x30 + 1))))) else (none)) else (none)) else ((corporaref05_text.f k x9).bind fun t412 => (some (t412, 0)))
def corporaref05_Intersect.f (k : Nat) (a0 : ByteArray) (a1 : ByteArray) : Option (ByteArray × Int) := (corporaref05_Parse.f k a0).bind fun bt399 => (if bt399.2 = 0 then ((corporaref05_Parse.f k a1).bind fun bt403 => (if bt403.2 = 0 then (corporaref05_Intersect.l0 k bt403.1 ([] : List ByteArray) bt399.1 (bt399.1.length : Int) 0) else (some ((⟨#[]⟩ : ByteArray), bt403.2)))) else (some ((⟨#[]⟩ : ByteArray), bt399.2)))
theorem corporaref05_Intersect.mono_l : ∀ k, (∀ y0 y1 y2 y3 y4, LeO (corporaref05_Intersect.l0 k y0 y1 y2 y3 y4) (corporaref05_Intersect.l0 (k + 1) y0 y1 y2 y3 y4))
  | 0 => fun _ _ _ _ _ r h => by simp [corporaref05_Intersect.l0] at h
  | k + 1 => by
    have ih0 := corporaref05_Intersect.mono_l k
    · intro y0 y1 y2 y3 y4
      unfold corporaref05_Intersect.l0
      repeat' first
      | (with_reducible exact ih0 _ _ _ _ _)
      | (with_reducible exact corporaref05_Parse.mono _ _)
      | (with_reducible exact corporaref05_member.mono _ _ _)
      | (with_reducible exact corporaref05_text.mono _ _)
      | (with_reducible exact LeO.refl _)
      | (with_reducible exact LeO.none _)
      | (with_reducible refine LeO.ite ?_ ?_)
      | (with_reducible refine LeO.bind ?_ (fun _ => ?_))
      | exact ih0 _ _ _ _ _
      | exact corporaref05_Parse.mono _ _
      | exact corporaref05_member.mono _ _ _
      | exact corporaref05_text.mono _ _
      | exact LeO.none _
      | refine LeO.ite ?_ ?_
      | refine LeO.bind ?_ (fun _ => ?_)
theorem corporaref05_Intersect.mono : ∀ a0 a1 k, LeO (corporaref05_Intersect.f k a0 a1) (corporaref05_Intersect.f (k + 1) a0 a1) := by
  intro a0 a1 k
  have ih0 := corporaref05_Intersect.mono_l k
  unfold corporaref05_Intersect.f
  repeat' first
      | (with_reducible exact ih0 _ _ _ _ _)
      | (with_reducible exact corporaref05_Parse.mono _ _)
      | (with_reducible exact corporaref05_member.mono _ _ _)
      | (with_reducible exact corporaref05_text.mono _ _)
      | (with_reducible exact LeO.refl _)
      | (with_reducible exact LeO.none _)
      | (with_reducible refine LeO.ite ?_ ?_)
      | (with_reducible refine LeO.bind ?_ (fun _ => ?_))
      | exact ih0 _ _ _ _ _
      | exact corporaref05_Parse.mono _ _
      | exact corporaref05_member.mono _ _ _
      | exact corporaref05_text.mono _ _
      | exact LeO.none _
      | refine LeO.ite ?_ ?_
      | refine LeO.bind ?_ (fun _ => ?_)
set_option maxHeartbeats 8000000 in
set_option maxRecDepth 100000 in
theorem corporaref05_Intersect.calls (k : Nat) (a0 : ByteArray) (a1 : ByteArray) (r1 : ByteArray) (r2 : Int) (w : World) (h : corporaref05_Intersect.f k a0 a1 = some (r1, r2)) :
    Calls Try.prog 23 #[.string a0, .string a1] w fun e w' => e = .returned (.tuple #[.string r1, .int .i64 r2]) ∧ Below w.heap.size w w' := by
  have HB := Aside0.mk (Below.refl w.heap.size w)
  have H : ((corporaref05_Parse.f k a0).bind fun bt399 => (if bt399.2 = 0 then ((corporaref05_Parse.f k a1).bind fun bt403 => (if bt403.2 = 0 then (corporaref05_Intersect.l0 k bt403.1 ([] : List ByteArray) bt399.1 (bt399.1.length : Int) 0) else (some ((⟨#[]⟩ : ByteArray), bt403.2)))) else (some ((⟨#[]⟩ : ByteArray), bt399.2)))) = some (r1, r2) := h
  clear h
  replace H := Option.bind_eq_some_iff.mp H
  obtain ⟨⟨t399, t400⟩, A30, H⟩ := H
  replace H : (if t400 = 0 then ((corporaref05_Parse.f k a1).bind fun bt403 => (if bt403.2 = 0 then (corporaref05_Intersect.l0 k bt403.1 ([] : List ByteArray) t399 (t399.length : Int) 0) else (some ((⟨#[]⟩ : ByteArray), bt403.2)))) else (some ((⟨#[]⟩ : ByteArray), t400))) = some (r1, r2) := H
  have A3 := Aside0.mk A30
  clear A30
  by_cases c4 : t400 = 0
  · rw [if_pos c4] at H
    have c4b0 : (t400 == 0) = true := beq_iff_eq.mpr c4
    have c4b1 : (t400 != 0) = false := bne_eq_false_iff_eq.mpr c4
    clear c4
    replace H := Option.bind_eq_some_iff.mp H
    obtain ⟨⟨t403, t404⟩, A50, H⟩ := H
    replace H : (if t404 = 0 then (corporaref05_Intersect.l0 k t403 ([] : List ByteArray) t399 (t399.length : Int) 0) else (some ((⟨#[]⟩ : ByteArray), t404))) = some (r1, r2) := H
    have A5 := Aside0.mk A50
    clear A50
    by_cases c6 : t404 = 0
    · rw [if_pos c6] at H
      have c6b0 : (t404 == 0) = true := beq_iff_eq.mpr c6
      have c6b1 : (t404 != 0) = false := bne_eq_false_iff_eq.mpr c6
      clear c6
      have H' := Aside0.mk H
      clear H
      go_enter Try.func23, Try.ntmps23
      go_wp2_with (first | ((with_reducible refine gate_callee (f := 13) rfl ?_); refine goesL_ (some 14) rfl rfl Try.func13 (by kernel_rfl) rfl #[.string a0] rfl (by (try simp only [List.map_toArray, List.map_cons, List.map_nil]); first | done | rfl | (simp only [List.length_drop, List.length_take]; rfl)) ?_; (with_reducible refine (corporaref05_Parse.calls k a0 t399 t400 _ A3.out).mono ?_); rintro e w7 ⟨v401, rfl, ho0, hb⟩; refine ⟨_, rfl, ?_⟩; have n0_ := Aside0.mk (Kd.R_lower ho0 (below_size (by repeat (first | (with_reducible first | exact HB.out | apply below_alloc | apply pw_below_drewN | apply below_drew1) | exact HB.out)))); have n1_ := Aside0.mk (below_step (by repeat (first | (with_reducible first | exact HB.out | apply below_alloc | apply pw_below_drewN | apply below_drew1) | exact HB.out)) hb); clear HB; have HO402 := n0_; have HB := n1_; clear n0_ n1_; (try clear hb); (try clear hb2); (try clear hk); (try clear hi); (try clear ho0)) | ((with_reducible refine gate_callee (f := 13) rfl ?_); refine goesL_ (some 22) rfl rfl Try.func13 (by kernel_rfl) rfl #[.string a1] rfl (by (try simp only [List.map_toArray, List.map_cons, List.map_nil]); first | done | rfl | (simp only [List.length_drop, List.length_take]; rfl)) ?_; (with_reducible refine (corporaref05_Parse.calls k a1 t403 t404 _ A5.out).mono ?_); rintro e w8 ⟨v405, rfl, ho0, hb⟩; refine ⟨_, rfl, ?_⟩; have n0_ := Aside0.mk (Kd.R_elder' (by (with_reducible repeat (first | apply Kd.R_alloc | apply Kd.R_drewN | apply Kd.R_drew)); exact HO402.out) (Kd.R_base ho0) hb); have n1_ := Aside0.mk (Kd.R_lower (Kd.R_new' ho0 (Kd.R_lt (by (with_reducible repeat (first | apply Kd.R_alloc | apply Kd.R_drewN | apply Kd.R_drew)); exact HO402.out))) (below_size (by repeat (first | (with_reducible first | exact HB.out | apply below_alloc | apply pw_below_drewN | apply below_drew1) | exact HB.out)))); have n2_ := Aside0.mk (below_step (by repeat (first | (with_reducible first | exact HB.out | apply below_alloc | apply pw_below_drewN | apply below_drew1) | exact HB.out)) hb); clear HO402; clear HB; have HO402 := n0_; have HO406 := n1_; have HB := n2_; clear n0_ n1_ n2_; (try clear hb); (try clear hb2); (try clear hk); (try clear hi); (try clear ho0); obtain ⟨Ao9, co9, eo9⟩ := Kd.R_slice HO402.out; subst eo9))
      go_loopg [9, 30] k (fun kq v9 v30 w' => ∃ (x9_1 : List ByteArray) (x30_1 : Int), v30 = .int .i64 x30_1 ∧ Aside0 (corporaref05_Intersect.l0 kq t403 x9_1 t399 (t399.length : Int) x30_1 = some (r1, r2)) ∧ Aside0 (kq ≤ k) ∧ Aside0 (Kd.R Kd.string 9 w' w.heap.size (fun k_ => some k_ ≠ (v9 : Value).ownBlock ∧ some k_ ≠ ((.slice Ao9 t399.length co9) : Value).ownBlock) v405 t403) ∧ Aside0 (Kd.R Kd.string 9 w' w.heap.size (fun k_ => some k_ ≠ (v405 : Value).ownBlock ∧ some k_ ≠ ((.slice Ao9 t399.length co9) : Value).ownBlock) v9 x9_1) ∧ Aside0 (Kd.R Kd.string 9 w' w.heap.size (fun k_ => some k_ ≠ (v405 : Value).ownBlock ∧ some k_ ≠ (v9 : Value).ownBlock) (.slice Ao9 t399.length co9) t399) ∧ Aside0 (Below w.heap.size w w'))
      case atStart => exact ⟨(([] : List ByteArray)), (0), (by first | rfl | (simp; done) | (simp [*]; done)), H', ⟨Nat.le_refl _⟩, ⟨by (with_reducible repeat (first | apply Kd.R_alloc | apply Kd.R_drewN | apply Kd.R_drew)); exact Kd.R_mono HO406.out (fun _ hk => ⟨(by simp [Value.ownBlock]), hk.2⟩)⟩, ⟨by first | exact Kd.R_nil _ _ _ _ _ | exact Kd.N_nil _ _ _ _ _ | exact Kd.V_nil _ _ _ _ _ | exact Kd.Q_nil _ _ _ _ _ | exact Kd.S_nil _ _ _ _ _⟩, ⟨by (with_reducible repeat (first | apply Kd.R_alloc | apply Kd.R_drewN | apply Kd.R_drew)); exact Kd.R_mono HO402.out (fun _ hk => ⟨hk.2, (by simp [Value.ownBlock])⟩)⟩, ⟨by repeat (first | (with_reducible first | exact HB.out | apply below_alloc | apply pw_below_drewN | apply below_drew1) | exact HB.out)⟩⟩
      case round =>
        clear H'
        try clear c1
        try clear c2
        try clear p2
        try clear c4
        try clear c4b0
        try clear c4b1
        try clear c6
        try clear c6b0
        try clear c6b1
        obtain ⟨x9_1, x30_1, rfl, HA, HK1, HO_8, HO_9, HO_28, HB⟩ := hrel
        cases gk with
        | zero => exact absurd HA.out (by simp [corporaref05_Intersect.l0])
        | succ k1 =>
          have H := HA.out
          clear HA
          simp only [corporaref05_Intersect.l0] at H
          by_cases c10 : x30_1 < (t399.length : Int)
          · rw [if_pos c10] at H
            have c10b0 : decide (x30_1 < (t399.length : Int)) = true := decide_eq_true c10
            clear c10
            by_cases c11 : 0 ≤ x30_1
            · rw [if_pos c11] at H
              have c11b0 : decide (0 ≤ x30_1) = true := decide_eq_true c11
              clear c11
              by_cases c12 : x30_1 < (t399.length : Int)
              · rw [if_pos c12] at H
                have c12b0 : decide (x30_1 < (t399.length : Int)) = true := decide_eq_true c12
                clear c12
                replace H := Option.bind_eq_some_iff.mp H
                obtain ⟨t408, A130, H⟩ := H
                replace H : (if t408 = true then (if x9_1.length < 8796093022208 then (corporaref05_Intersect.l0 k1 t403 (x9_1 ++ [rdOf ByteArray.empty t399 x30_1]) t399 (t399.length : Int) (wrap64 (x30_1 + 1))) else (none)) else (corporaref05_Intersect.l0 k1 t403 x9_1 t399 (t399.length : Int) (wrap64 (x30_1 + 1)))) = some (r1, r2) := H
                have A13 := Aside0.mk A130
                clear A130
                by_cases c14 : t408 = true
                · subst c14
                  have H1 : (if x9_1.length < 8796093022208 then (corporaref05_Intersect.l0 k1 t403 (x9_1 ++ [rdOf ByteArray.empty t399 x30_1]) t399 (t399.length : Int) (wrap64 (x30_1 + 1))) else (none)) = some (r1, r2) := by rw [if_pos rfl] at H; exact H
                  clear H
                  have H := H1
                  clear H1
                  by_cases c15 : x9_1.length < 8796093022208
                  · rw [if_pos c15] at H
                    have LMc15 := Aside0.mk c15
                    clear c15
                    obtain ⟨y409, hy409⟩ : ∃ y_ : List ByteArray, y_ = (x9_1 ++ [rdOf ByteArray.empty t399 x30_1]) := ⟨_, rfl⟩
                    replace H : (corporaref05_Intersect.l0 k1 t403 y409 t399 (t399.length : Int) (wrap64 (x30_1 + 1))) = some (r1, r2) := by first | (rw [hy409]; with_reducible exact H) | (have H2_ := (Option.bind_some _ _).symm.trans H; rw [hy409]; with_reducible exact H2_) | (have H2_ := (Option.bind_some _ _).symm.trans H; with_reducible exact H2_) | with_reducible exact H | (rw [hy409]; exact H) | exact H
                    have Ny409 := Aside0.mk hy409
                    clear hy409
                    have H' := Aside0.mk H
                    clear H
                    have p407 : 0 ≤ (x30_1 : Int) := of_decide_eq_true (by first | (with_reducible assumption) | assumption)
                    have q407 : x30_1 < (t399.length : Int) := of_decide_eq_true (by first | (with_reducible assumption) | assumption)
                    obtain ⟨ad407, e407, hx407_0⟩ := Kd.at_string (Kd.R_reads' HO_28.out).2.2 x30_1 p407 q407
                    cases e407
                    replace p407 := eq_true p407
                    replace q407 := eq_true q407
                    obtain ⟨Ao16, co16, eo16⟩ := Kd.R_slice HO_8.out
                    subst eo16
                    go_wp2_with (first | ((with_reducible refine gate_callee (f := 34) rfl ?_); refine goesL_ (some 36) rfl rfl Try.func34 (by kernel_rfl) rfl #[.slice Ao16 t403.length co16, .string (rdOf ByteArray.empty t399 x30_1)] rfl (by (try simp only [List.map_toArray, List.map_cons, List.map_nil]); first | done | rfl | (simp only [List.length_drop, List.length_take]; rfl)) ?_; (with_reducible refine (corporaref05_member.calls k1 _ _ t403 (rdOf ByteArray.empty t399 x30_1) true _ ?side1 ?side2 A13.out).mono ?_); (case side1 => repeat (first | exact (Kd.R_reads' HO_8.out).2.2 | (with_reducible refine Kd.C_alloc ?_ _) | (with_reducible refine Kd.C_drewN ?_ _) | (with_reducible refine Kd.C_drew ?_))); (case side2 => exact (Kd.R_reads' HO_8.out).2.1); rintro e w' ⟨rfl, ⟨nd, rfl⟩⟩; refine ⟨_, rfl, ?_⟩) | ((with_reducible refine gate_builtin (b := .append) (xs := #[.tmp 37, .tmp 39]) rfl ?_); at_builtin; refine Kd.R_append Kd.string (w0 := w) w.heap.size rfl (.tmp 37) (.tmp 39) 23 9 (.string ⟨#[]⟩) 16 rfl Try.underlying23 info9 rfl (by decide) (by omega) u9 x9_1 (rdOf ByteArray.empty t399 x30_1) [.string (rdOf ByteArray.empty t399 x30_1)] (fun k_ => some k_ ≠ (.slice Ao16 t403.length co16 : Value).ownBlock ∧ some k_ ≠ (.slice (some ad407) t399.length co9 : Value).ownBlock) (fun _ => False) rfl rfl ?aP (fun _ hk => hk.elim) ?aF ?aO ?aB ?aS ?aL ?_; (case aP => exact rfl); (case aB => exact (by repeat (first | (with_reducible first | exact HB.out | apply below_alloc | apply pw_below_drewN | apply below_drew1) | exact HB.out))); (case aF => exact (fun k_ hk => ⟨Kd.fresh' (Kd.R_lt (by (with_reducible repeat (first | apply Kd.R_alloc | apply Kd.R_drewN | apply Kd.R_drew)); exact HO_8.out)) k_ hk, Kd.fresh' (Kd.R_lt (by (with_reducible repeat (first | apply Kd.R_alloc | apply Kd.R_drewN | apply Kd.R_drew)); exact HO_28.out)) k_ hk⟩)); (case aO => exact (by (with_reducible repeat (first | apply Kd.R_alloc | apply Kd.R_drewN | apply Kd.R_drew)); exact HO_9.out)); (case aS => exact (below_size (by repeat (first | (with_reducible first | exact HB.out | apply below_alloc | apply pw_below_drewN | apply below_drew1) | exact HB.out)))); (case aL => have := LMc15.out; omega); intro v410 w17 ho hb hg hat; rw [← Ny409.out] at ho; have n0_ := Aside0.mk (Kd.R_after (ok := (fun k_ => some k_ ≠ (.slice (some ad407) t399.length co9 : Value).ownBlock)) (by (with_reducible repeat (first | apply Kd.R_alloc | apply Kd.R_drewN | apply Kd.R_drew)); exact Kd.R_mono HO_8.out (fun _ hk => ⟨hk.2, hk.1⟩)) hg hat); have n1_ := Aside0.mk (Kd.R_after (ok := (fun k_ => some k_ ≠ (.slice Ao16 t403.length co16 : Value).ownBlock)) (by (with_reducible repeat (first | apply Kd.R_alloc | apply Kd.R_drewN | apply Kd.R_drew)); exact HO_28.out) hg hat); have n2_ := Aside0.mk (hb); have n3_ := Aside0.mk (ho); clear HO_8; clear HO_28; clear HB; clear HO_9; have HO_8 := n0_; have HO_28 := n1_; have HB := n2_; have HO411 := n3_; clear n0_ n1_ n2_ n3_; clear ho hb hg hat))
                    go_roundg k1
                    case measure => have := HK1.out; omega
                    case rel => exact ⟨(y409), (wrap64 (x30_1 + 1)), (by first | rfl | (simp; done) | (simp [*]; done)), H', ⟨by have := HK1.out; omega⟩, ⟨by (with_reducible repeat (first | apply Kd.R_alloc | apply Kd.R_drewN | apply Kd.R_drew)); exact Kd.R_mono HO_8.out (fun _ hk => ⟨hk.2, hk.1⟩)⟩, ⟨by (with_reducible repeat (first | apply Kd.R_alloc | apply Kd.R_drewN | apply Kd.R_drew)); exact HO411.out⟩, ⟨by (with_reducible repeat (first | apply Kd.R_alloc | apply Kd.R_drewN | apply Kd.R_drew)); exact HO_28.out⟩, ⟨by repeat (first | (with_reducible first | exact HB.out | apply below_alloc | apply pw_below_drewN | apply below_drew1) | exact HB.out)⟩⟩
                  · rw [if_neg c15] at H
                    exact absurd H (by simp)
                · replace c14 := Bool.eq_false_iff.mpr c14
                  subst c14
                  have H1 : (corporaref05_Intersect.l0 k1 t403 x9_1 t399 (t399.length : Int) (wrap64 (x30_1 + 1))) = some (r1, r2) := by rw [if_neg (show ¬ (false = true) by decide)] at H; exact H
                  clear H
                  have H := H1
                  clear H1
                  have H' := Aside0.mk H
                  clear H
                  have p407 : 0 ≤ (x30_1 : Int) := of_decide_eq_true (by first | (with_reducible assumption) | assumption)
                  have q407 : x30_1 < (t399.length : Int) := of_decide_eq_true (by first | (with_reducible assumption) | assumption)
                  obtain ⟨ad407, e407, hx407_0⟩ := Kd.at_string (Kd.R_reads' HO_28.out).2.2 x30_1 p407 q407
                  cases e407
                  replace p407 := eq_true p407
                  replace q407 := eq_true q407
                  obtain ⟨Ao18, co18, eo18⟩ := Kd.R_slice HO_8.out
                  subst eo18
                  go_wp2_with (first | ((with_reducible refine gate_callee (f := 34) rfl ?_); refine goesL_ (some 36) rfl rfl Try.func34 (by kernel_rfl) rfl #[.slice Ao18 t403.length co18, .string (rdOf ByteArray.empty t399 x30_1)] rfl (by (try simp only [List.map_toArray, List.map_cons, List.map_nil]); first | done | rfl | (simp only [List.length_drop, List.length_take]; rfl)) ?_; (with_reducible refine (corporaref05_member.calls k1 _ _ t403 (rdOf ByteArray.empty t399 x30_1) false _ ?side1 ?side2 A13.out).mono ?_); (case side1 => repeat (first | exact (Kd.R_reads' HO_8.out).2.2 | (with_reducible refine Kd.C_alloc ?_ _) | (with_reducible refine Kd.C_drewN ?_ _) | (with_reducible refine Kd.C_drew ?_))); (case side2 => exact (Kd.R_reads' HO_8.out).2.1); rintro e w' ⟨rfl, ⟨nd, rfl⟩⟩; refine ⟨_, rfl, ?_⟩))
                  go_roundg k1
                  case measure => have := HK1.out; omega
                  case rel => exact ⟨(x9_1), (wrap64 (x30_1 + 1)), (by first | rfl | (simp; done) | (simp [*]; done)), H', ⟨by have := HK1.out; omega⟩, ⟨by (with_reducible repeat (first | apply Kd.R_alloc | apply Kd.R_drewN | apply Kd.R_drew)); exact HO_8.out⟩, ⟨by (with_reducible repeat (first | apply Kd.R_alloc | apply Kd.R_drewN | apply Kd.R_drew)); exact HO_9.out⟩, ⟨by (with_reducible repeat (first | apply Kd.R_alloc | apply Kd.R_drewN | apply Kd.R_drew)); exact HO_28.out⟩, ⟨by repeat (first | (with_reducible first | exact HB.out | apply below_alloc | apply pw_below_drewN | apply below_drew1) | exact HB.out)⟩⟩
              · rw [if_neg c12] at H
                exact absurd H (by simp)
            · rw [if_neg c11] at H
              exact absurd H (by simp)
          · rw [if_neg c10] at H
            have c10b0 : decide (x30_1 < (t399.length : Int)) = false := decide_eq_false c10
            clear c10
            replace H := Option.bind_eq_some_iff.mp H
            obtain ⟨t412, A190, H⟩ := H
            replace H : (some (t412, 0)) = some (r1, r2) := H
            have A19 := Aside0.mk A190
            clear A190
            simp only [Option.some.injEq, Prod.mk.injEq] at H
            obtain ⟨rfl, rfl⟩ := H
            obtain ⟨Ao20, co20, eo20⟩ := Kd.R_slice HO_9.out
            subst eo20
            go_wp2_with (first | ((with_reducible refine gate_callee (f := 32) rfl ?_); refine goesL_ (some 43) rfl rfl Try.func32 (by kernel_rfl) rfl #[.slice Ao20 x9_1.length co20] rfl (by (try simp only [List.map_toArray, List.map_cons, List.map_nil]); first | done | rfl | (simp only [List.length_drop, List.length_take]; rfl)) ?_; (with_reducible refine (corporaref05_text.calls k1 _ _ x9_1 t412 _ ?side1 ?side2 A19.out).mono ?_); (case side1 => repeat (first | exact (Kd.R_reads' HO_9.out).2.2 | (with_reducible refine Kd.C_alloc ?_ _) | (with_reducible refine Kd.C_drewN ?_ _) | (with_reducible refine Kd.C_drew ?_))); (case side2 => exact (Kd.R_reads' HO_9.out).2.1); rintro e w' ⟨rfl, ⟨nd, rfl⟩⟩; refine ⟨_, rfl, ?_⟩))
            go_ret2
            exact ⟨by first | rfl | (simp [errW_none, errW_some] <;> rfl) | (simp [*, errW_none, errW_some] <;> rfl), by repeat (first | (with_reducible first | exact HB.out | apply below_alloc | apply pw_below_drewN | apply below_drew1) | exact HB.out)⟩
    · rw [if_neg c6] at H
      have c6b0 : (t404 == 0) = false := beq_eq_false_iff_ne.mpr c6
      have c6b1 : (t404 != 0) = true := bne_iff_ne.mpr c6
      simp only [Option.some.injEq, Prod.mk.injEq] at H
      obtain ⟨rfl, rfl⟩ := H
      go_enter Try.func23, Try.ntmps23
      go_wp2_with (first | ((with_reducible refine gate_callee (f := 13) rfl ?_); refine goesL_ (some 14) rfl rfl Try.func13 (by kernel_rfl) rfl #[.string a0] rfl (by (try simp only [List.map_toArray, List.map_cons, List.map_nil]); first | done | rfl | (simp only [List.length_drop, List.length_take]; rfl)) ?_; (with_reducible refine (corporaref05_Parse.calls k a0 t399 t400 _ A3.out).mono ?_); rintro e w21 ⟨v401, rfl, ho0, hb⟩; refine ⟨_, rfl, ?_⟩; have n0_ := Aside0.mk (Kd.R_lower ho0 (below_size (by repeat (first | (with_reducible first | exact HB.out | apply below_alloc | apply pw_below_drewN | apply below_drew1) | exact HB.out)))); have n1_ := Aside0.mk (below_step (by repeat (first | (with_reducible first | exact HB.out | apply below_alloc | apply pw_below_drewN | apply below_drew1) | exact HB.out)) hb); clear HB; have HO402 := n0_; have HB := n1_; clear n0_ n1_; (try clear hb); (try clear hb2); (try clear hk); (try clear hi); (try clear ho0)) | ((with_reducible refine gate_callee (f := 13) rfl ?_); refine goesL_ (some 22) rfl rfl Try.func13 (by kernel_rfl) rfl #[.string a1] rfl (by (try simp only [List.map_toArray, List.map_cons, List.map_nil]); first | done | rfl | (simp only [List.length_drop, List.length_take]; rfl)) ?_; (with_reducible refine (corporaref05_Parse.calls k a1 t403 t404 _ A5.out).mono ?_); rintro e w22 ⟨v405, rfl, ho0, hb⟩; refine ⟨_, rfl, ?_⟩; have n0_ := Aside0.mk (Kd.R_elder' (by (with_reducible repeat (first | apply Kd.R_alloc | apply Kd.R_drewN | apply Kd.R_drew)); exact HO402.out) (Kd.R_base ho0) hb); have n1_ := Aside0.mk (Kd.R_lower (Kd.R_new' ho0 (Kd.R_lt (by (with_reducible repeat (first | apply Kd.R_alloc | apply Kd.R_drewN | apply Kd.R_drew)); exact HO402.out))) (below_size (by repeat (first | (with_reducible first | exact HB.out | apply below_alloc | apply pw_below_drewN | apply below_drew1) | exact HB.out)))); have n2_ := Aside0.mk (below_step (by repeat (first | (with_reducible first | exact HB.out | apply below_alloc | apply pw_below_drewN | apply below_drew1) | exact HB.out)) hb); clear HO402; clear HB; have HO402 := n0_; have HO406 := n1_; have HB := n2_; clear n0_ n1_ n2_; (try clear hb); (try clear hb2); (try clear hk); (try clear hi); (try clear ho0)))
      go_ret2
      exact ⟨by first | rfl | (simp [errW_none, errW_some] <;> rfl) | (simp [*, errW_none, errW_some] <;> rfl), by repeat (first | (with_reducible first | exact HB.out | apply below_alloc | apply pw_below_drewN | apply below_drew1) | exact HB.out)⟩
  · rw [if_neg c4] at H
    have c4b0 : (t400 == 0) = false := beq_eq_false_iff_ne.mpr c4
    have c4b1 : (t400 != 0) = true := bne_iff_ne.mpr c4
    simp only [Option.some.injEq, Prod.mk.injEq] at H
    obtain ⟨rfl, rfl⟩ := H
    go_enter Try.func23, Try.ntmps23
    go_wp2_with (first | ((with_reducible refine gate_callee (f := 13) rfl ?_); refine goesL_ (some 14) rfl rfl Try.func13 (by kernel_rfl) rfl #[.string a0] rfl (by (try simp only [List.map_toArray, List.map_cons, List.map_nil]); first | done | rfl | (simp only [List.length_drop, List.length_take]; rfl)) ?_; (with_reducible refine (corporaref05_Parse.calls k a0 t399 t400 _ A3.out).mono ?_); rintro e w23 ⟨v401, rfl, ho0, hb⟩; refine ⟨_, rfl, ?_⟩; have n0_ := Aside0.mk (Kd.R_lower ho0 (below_size (by repeat (first | (with_reducible first | exact HB.out | apply below_alloc | apply pw_below_drewN | apply below_drew1) | exact HB.out)))); have n1_ := Aside0.mk (below_step (by repeat (first | (with_reducible first | exact HB.out | apply below_alloc | apply pw_below_drewN | apply below_drew1) | exact HB.out)) hb); clear HB; have HO402 := n0_; have HB := n1_; clear n0_ n1_; (try clear hb); (try clear hb2); (try clear hk); (try clear hi); (try clear ho0)))
    go_ret2
    exact ⟨by first | rfl | (simp [errW_none, errW_some] <;> rfl) | (simp [*, errW_none, errW_some] <;> rfl), by repeat (first | (with_reducible first | exact HB.out | apply below_alloc | apply pw_below_drewN | apply below_drew1) | exact HB.out)⟩

end Go.Proofs.Ytcgglamgemgeiaa.Q
/- FCorporaref05Subset -/
namespace Go.Proofs.Ytcgglamgemgeiaa.Q
open Go.RowKit Go.Proofs.YtcgglamgemgeiaaW.PrintWords Go.Proofs.YtcgglamgemgeiaaW.PrintLast Go.Proofs.YtcgglamgemgeiaaW.PrintMore
attribute [local go_sem] max2_int min2_int max_two min_two max_three min_three max_four min_four   -- for this text's walks alone
set_option linter.unusedVariables false
set_option linter.unusedSimpArgs false

/-! ### corporaref05_Subset: function 25 -/
def corporaref05_Subset.l0 : Nat → List ByteArray → List ByteArray → Int → Int → Option (Bool × Int)
  | 0, _, _, _, _ => none
  | k + 1, x8, x27, x28, x29 => if x29 < x28 then (if 0 ≤ x29 then (if x29 < (x27.length : Int) then ((corporaref05_member.f k x8 (rdOf ByteArray.empty x27 x29)).bind fun t433 => (if t433 = true then (corporaref05_Subset.l0 k x8 x27 x28 (wrap64 (x29 + 1))) else (some (false, 0)))) else (none)) else (none)) else (some (true, 0))
def corporaref05_Subset.f (k : Nat) (a0 : ByteArray) (a1 : ByteArray) : Option (Bool × Int) := (corporaref05_Parse.f k a0).bind fun bt424 => (if bt424.2 = 0 then ((corporaref05_Parse.f k a1).bind fun bt428 => (if bt428.2 = 0 then (corporaref05_Subset.l0 k bt428.1 bt424.1 (bt424.1.length : Int) 0) else (some (false, bt428.2)))) else (some (false, bt424.2)))
theorem corporaref05_Subset.mono_l : ∀ k, (∀ y0 y1 y2 y3, LeO (corporaref05_Subset.l0 k y0 y1 y2 y3) (corporaref05_Subset.l0 (k + 1) y0 y1 y2 y3))
  | 0 => fun _ _ _ _ r h => by simp [corporaref05_Subset.l0] at h
  | k + 1 => by
    have ih0 := corporaref05_Subset.mono_l k
    · intro y0 y1 y2 y3
      unfold corporaref05_Subset.l0
      repeat' first
      | (with_reducible exact ih0 _ _ _ _)
      | (with_reducible exact corporaref05_Parse.mono _ _)
      | (with_reducible exact corporaref05_member.mono _ _ _)
      | (with_reducible exact LeO.refl _)
      | (with_reducible exact LeO.none _)
      | (with_reducible refine LeO.ite ?_ ?_)
      | (with_reducible refine LeO.bind ?_ (fun _ => ?_))
      | exact ih0 _ _ _ _
      | exact corporaref05_Parse.mono _ _
      | exact corporaref05_member.mono _ _ _
      | exact LeO.none _
      | refine LeO.ite ?_ ?_
      | refine LeO.bind ?_ (fun _ => ?_)
theorem corporaref05_Subset.mono : ∀ a0 a1 k, LeO (corporaref05_Subset.f k a0 a1) (corporaref05_Subset.f (k + 1) a0 a1) := by
  intro a0 a1 k
  have ih0 := corporaref05_Subset.mono_l k
  unfold corporaref05_Subset.f
  repeat' first
      | (with_reducible exact ih0 _ _ _ _)
      | (with_reducible exact corporaref05_Parse.mono _ _)
      | (with_reducible exact corporaref05_member.mono _ _ _)
      | (with_reducible exact LeO.refl _)
      | (with_reducible exact LeO.none _)
      | (with_reducible refine LeO.ite ?_ ?_)
      | (with_reducible refine LeO.bind ?_ (fun _ => ?_))
      | exact ih0 _ _ _ _
      | exact corporaref05_Parse.mono _ _
      | exact corporaref05_member.mono _ _ _
      | exact LeO.none _
      | refine LeO.ite ?_ ?_
      | refine LeO.bind ?_ (fun _ => ?_)
set_option maxHeartbeats 8000000 in
set_option maxRecDepth 100000 in
theorem corporaref05_Subset.calls (k : Nat) (a0 : ByteArray) (a1 : ByteArray) (r1 : Bool) (r2 : Int) (w : World) (h : corporaref05_Subset.f k a0 a1 = some (r1, r2)) :
    Calls Try.prog 25 #[.string a0, .string a1] w fun e w' => e = .returned (.tuple #[.bool r1, .int .i64 r2]) ∧ Below w.heap.size w w' := by
  have HB := Aside0.mk (Below.refl w.heap.size w)
  have H : ((corporaref05_Parse.f k a0).bind fun bt424 => (if bt424.2 = 0 then ((corporaref05_Parse.f k a1).bind fun bt428 => (if bt428.2 = 0 then (corporaref05_Subset.l0 k bt428.1 bt424.1 (bt424.1.length : Int) 0) else (some (false, bt428.2)))) else (some (false, bt424.2)))) = some (r1, r2) := h
  clear h
  replace H := Option.bind_eq_some_iff.mp H
  obtain ⟨⟨t424, t425⟩, A30, H⟩ := H
  replace H : (if t425 = 0 then ((corporaref05_Parse.f k a1).bind fun bt428 => (if bt428.2 = 0 then (corporaref05_Subset.l0 k bt428.1 t424 (t424.length : Int) 0) else (some (false, bt428.2)))) else (some (false, t425))) = some (r1, r2) := H
  have A3 := Aside0.mk A30
  clear A30
  by_cases c4 : t425 = 0
  · rw [if_pos c4] at H
    have c4b0 : (t425 == 0) = true := beq_iff_eq.mpr c4
    have c4b1 : (t425 != 0) = false := bne_eq_false_iff_eq.mpr c4
    clear c4
    replace H := Option.bind_eq_some_iff.mp H
    obtain ⟨⟨t428, t429⟩, A50, H⟩ := H
    replace H : (if t429 = 0 then (corporaref05_Subset.l0 k t428 t424 (t424.length : Int) 0) else (some (false, t429))) = some (r1, r2) := H
    have A5 := Aside0.mk A50
    clear A50
    by_cases c6 : t429 = 0
    · rw [if_pos c6] at H
      have c6b0 : (t429 == 0) = true := beq_iff_eq.mpr c6
      have c6b1 : (t429 != 0) = false := bne_eq_false_iff_eq.mpr c6
      clear c6
      have H' := Aside0.mk H
      clear H
      go_enter Try.func25, Try.ntmps25
      go_wp2_with (first | ((with_reducible refine gate_callee (f := 13) rfl ?_); refine goesL_ (some 13) rfl rfl Try.func13 (by kernel_rfl) rfl #[.string a0] rfl (by (try simp only [List.map_toArray, List.map_cons, List.map_nil]); first | done | rfl | (simp only [List.length_drop, List.length_take]; rfl)) ?_; (with_reducible refine (corporaref05_Parse.calls k a0 t424 t425 _ A3.out).mono ?_); rintro e w7 ⟨v426, rfl, ho0, hb⟩; refine ⟨_, rfl, ?_⟩; have n0_ := Aside0.mk (Kd.R_lower ho0 (below_size (by repeat (first | (with_reducible first | exact HB.out | apply below_alloc | apply pw_below_drewN | apply below_drew1) | exact HB.out)))); have n1_ := Aside0.mk (below_step (by repeat (first | (with_reducible first | exact HB.out | apply below_alloc | apply pw_below_drewN | apply below_drew1) | exact HB.out)) hb); clear HB; have HO427 := n0_; have HB := n1_; clear n0_ n1_; (try clear hb); (try clear hb2); (try clear hk); (try clear hi); (try clear ho0)) | ((with_reducible refine gate_callee (f := 13) rfl ?_); refine goesL_ (some 21) rfl rfl Try.func13 (by kernel_rfl) rfl #[.string a1] rfl (by (try simp only [List.map_toArray, List.map_cons, List.map_nil]); first | done | rfl | (simp only [List.length_drop, List.length_take]; rfl)) ?_; (with_reducible refine (corporaref05_Parse.calls k a1 t428 t429 _ A5.out).mono ?_); rintro e w8 ⟨v430, rfl, ho0, hb⟩; refine ⟨_, rfl, ?_⟩; have n0_ := Aside0.mk (Kd.R_elder' (by (with_reducible repeat (first | apply Kd.R_alloc | apply Kd.R_drewN | apply Kd.R_drew)); exact HO427.out) (Kd.R_base ho0) hb); have n1_ := Aside0.mk (Kd.R_lower (Kd.R_new' ho0 (Kd.R_lt (by (with_reducible repeat (first | apply Kd.R_alloc | apply Kd.R_drewN | apply Kd.R_drew)); exact HO427.out))) (below_size (by repeat (first | (with_reducible first | exact HB.out | apply below_alloc | apply pw_below_drewN | apply below_drew1) | exact HB.out)))); have n2_ := Aside0.mk (below_step (by repeat (first | (with_reducible first | exact HB.out | apply below_alloc | apply pw_below_drewN | apply below_drew1) | exact HB.out)) hb); clear HO427; clear HB; have HO427 := n0_; have HO431 := n1_; have HB := n2_; clear n0_ n1_ n2_; (try clear hb); (try clear hb2); (try clear hk); (try clear hi); (try clear ho0); obtain ⟨Ao9, co9, eo9⟩ := Kd.R_slice HO427.out; subst eo9))
      go_loopg [29] k (fun kq v29 w' => ∃ (x29_1 : Int), v29 = .int .i64 x29_1 ∧ Aside0 (corporaref05_Subset.l0 kq t428 t424 (t424.length : Int) x29_1 = some (r1, r2)) ∧ Aside0 (kq ≤ k) ∧ Aside0 (Kd.R Kd.string 9 w' w.heap.size (fun k_ => some k_ ≠ ((.slice Ao9 t424.length co9) : Value).ownBlock) v430 t428) ∧ Aside0 (Kd.R Kd.string 9 w' w.heap.size (fun k_ => some k_ ≠ (v430 : Value).ownBlock) (.slice Ao9 t424.length co9) t424) ∧ Aside0 (Below w.heap.size w w'))
      case atStart => exact ⟨(0), (by first | rfl | (simp; done) | (simp [*]; done)), H', ⟨Nat.le_refl _⟩, ⟨by (with_reducible repeat (first | apply Kd.R_alloc | apply Kd.R_drewN | apply Kd.R_drew)); exact Kd.R_mono HO431.out (fun _ hk => hk.2)⟩, ⟨by (with_reducible repeat (first | apply Kd.R_alloc | apply Kd.R_drewN | apply Kd.R_drew)); exact Kd.R_mono HO427.out (fun _ hk => hk.2)⟩, ⟨by repeat (first | (with_reducible first | exact HB.out | apply below_alloc | apply pw_below_drewN | apply below_drew1) | exact HB.out)⟩⟩
      case round =>
        clear H'
        try clear c1
        try clear c2
        try clear p2
        try clear c4
        try clear c4b0
        try clear c4b1
        try clear c6
        try clear c6b0
        try clear c6b1
        obtain ⟨x29_1, rfl, HA, HK1, HO_8, HO_27, HB⟩ := hrel
        cases gk with
        | zero => exact absurd HA.out (by simp [corporaref05_Subset.l0])
        | succ k1 =>
          have H := HA.out
          clear HA
          simp only [corporaref05_Subset.l0] at H
          by_cases c10 : x29_1 < (t424.length : Int)
          · rw [if_pos c10] at H
            have c10b0 : decide (x29_1 < (t424.length : Int)) = true := decide_eq_true c10
            clear c10
            by_cases c11 : 0 ≤ x29_1
            · rw [if_pos c11] at H
              have c11b0 : decide (0 ≤ x29_1) = true := decide_eq_true c11
              clear c11
              by_cases c12 : x29_1 < (t424.length : Int)
              · rw [if_pos c12] at H
                have c12b0 : decide (x29_1 < (t424.length : Int)) = true := decide_eq_true c12
                clear c12
                replace H := Option.bind_eq_some_iff.mp H
                obtain ⟨t433, A130, H⟩ := H
                replace H : (if t433 = true then (corporaref05_Subset.l0 k1 t428 t424 (t424.length : Int) (wrap64 (x29_1 + 1))) else (some (false, 0))) = some (r1, r2) := H
                have A13 := Aside0.mk A130
                clear A130
                by_cases c14 : t433 = true
                · subst c14
                  have H1 : (corporaref05_Subset.l0 k1 t428 t424 (t424.length : Int) (wrap64 (x29_1 + 1))) = some (r1, r2) := by rw [if_pos rfl] at H; exact H
                  clear H
                  have H := H1
                  clear H1
                  have H' := Aside0.mk H
                  clear H
                  have p432 : 0 ≤ (x29_1 : Int) := of_decide_eq_true (by first | (with_reducible assumption) | assumption)
                  have q432 : x29_1 < (t424.length : Int) := of_decide_eq_true (by first | (with_reducible assumption) | assumption)
                  obtain ⟨ad432, e432, hx432_0⟩ := Kd.at_string (Kd.R_reads' HO_27.out).2.2 x29_1 p432 q432
                  cases e432
                  replace p432 := eq_true p432
                  replace q432 := eq_true q432
                  obtain ⟨Ao15, co15, eo15⟩ := Kd.R_slice HO_8.out
                  subst eo15
                  go_wp2_with (first | ((with_reducible refine gate_callee (f := 34) rfl ?_); refine goesL_ (some 35) rfl rfl Try.func34 (by kernel_rfl) rfl #[.slice Ao15 t428.length co15, .string (rdOf ByteArray.empty t424 x29_1)] rfl (by (try simp only [List.map_toArray, List.map_cons, List.map_nil]); first | done | rfl | (simp only [List.length_drop, List.length_take]; rfl)) ?_; (with_reducible refine (corporaref05_member.calls k1 _ _ t428 (rdOf ByteArray.empty t424 x29_1) true _ ?side1 ?side2 A13.out).mono ?_); (case side1 => repeat (first | exact (Kd.R_reads' HO_8.out).2.2 | (with_reducible refine Kd.C_alloc ?_ _) | (with_reducible refine Kd.C_drewN ?_ _) | (with_reducible refine Kd.C_drew ?_))); (case side2 => exact (Kd.R_reads' HO_8.out).2.1); rintro e w' ⟨rfl, ⟨nd, rfl⟩⟩; refine ⟨_, rfl, ?_⟩))
                  go_roundg k1
                  case measure => have := HK1.out; omega
                  case rel => exact ⟨(wrap64 (x29_1 + 1)), (by first | rfl | (simp; done) | (simp [*]; done)), H', ⟨by have := HK1.out; omega⟩, ⟨by (with_reducible repeat (first | apply Kd.R_alloc | apply Kd.R_drewN | apply Kd.R_drew)); exact HO_8.out⟩, ⟨by (with_reducible repeat (first | apply Kd.R_alloc | apply Kd.R_drewN | apply Kd.R_drew)); exact HO_27.out⟩, ⟨by repeat (first | (with_reducible first | exact HB.out | apply below_alloc | apply pw_below_drewN | apply below_drew1) | exact HB.out)⟩⟩
                · replace c14 := Bool.eq_false_iff.mpr c14
                  subst c14
                  have H1 : (some (false, 0)) = some (r1, r2) := by rw [if_neg (show ¬ (false = true) by decide)] at H; exact H
                  clear H
                  have H := H1
                  clear H1
                  simp only [Option.some.injEq, Prod.mk.injEq] at H
                  obtain ⟨rfl, rfl⟩ := H
                  have p432 : 0 ≤ (x29_1 : Int) := of_decide_eq_true (by first | (with_reducible assumption) | assumption)
                  have q432 : x29_1 < (t424.length : Int) := of_decide_eq_true (by first | (with_reducible assumption) | assumption)
                  obtain ⟨ad432, e432, hx432_0⟩ := Kd.at_string (Kd.R_reads' HO_27.out).2.2 x29_1 p432 q432
                  cases e432
                  replace p432 := eq_true p432
                  replace q432 := eq_true q432
                  obtain ⟨Ao16, co16, eo16⟩ := Kd.R_slice HO_8.out
                  subst eo16
                  go_wp2_with (first | ((with_reducible refine gate_callee (f := 34) rfl ?_); refine goesL_ (some 35) rfl rfl Try.func34 (by kernel_rfl) rfl #[.slice Ao16 t428.length co16, .string (rdOf ByteArray.empty t424 x29_1)] rfl (by (try simp only [List.map_toArray, List.map_cons, List.map_nil]); first | done | rfl | (simp only [List.length_drop, List.length_take]; rfl)) ?_; (with_reducible refine (corporaref05_member.calls k1 _ _ t428 (rdOf ByteArray.empty t424 x29_1) false _ ?side1 ?side2 A13.out).mono ?_); (case side1 => repeat (first | exact (Kd.R_reads' HO_8.out).2.2 | (with_reducible refine Kd.C_alloc ?_ _) | (with_reducible refine Kd.C_drewN ?_ _) | (with_reducible refine Kd.C_drew ?_))); (case side2 => exact (Kd.R_reads' HO_8.out).2.1); rintro e w' ⟨rfl, ⟨nd, rfl⟩⟩; refine ⟨_, rfl, ?_⟩))
                  go_ret2
                  exact ⟨by first | rfl | (simp [errW_none, errW_some] <;> rfl) | (simp [*, errW_none, errW_some] <;> rfl), by repeat (first | (with_reducible first | exact HB.out | apply below_alloc | apply pw_below_drewN | apply below_drew1) | exact HB.out)⟩
              · rw [if_neg c12] at H
                exact absurd H (by simp)
            · rw [if_neg c11] at H
              exact absurd H (by simp)
          · rw [if_neg c10] at H
            have c10b0 : decide (x29_1 < (t424.length : Int)) = false := decide_eq_false c10
            clear c10
            simp only [Option.some.injEq, Prod.mk.injEq] at H
            obtain ⟨rfl, rfl⟩ := H
            go_wp2
            go_ret2
            exact ⟨by first | rfl | (simp [errW_none, errW_some] <;> rfl) | (simp [*, errW_none, errW_some] <;> rfl), by repeat (first | (with_reducible first | exact HB.out | apply below_alloc | apply pw_below_drewN | apply below_drew1) | exact HB.out)⟩
    · rw [if_neg c6] at H
      have c6b0 : (t429 == 0) = false := beq_eq_false_iff_ne.mpr c6
      have c6b1 : (t429 != 0) = true := bne_iff_ne.mpr c6
      simp only [Option.some.injEq, Prod.mk.injEq] at H
      obtain ⟨rfl, rfl⟩ := H
      go_enter Try.func25, Try.ntmps25
      go_wp2_with (first | ((with_reducible refine gate_callee (f := 13) rfl ?_); refine goesL_ (some 13) rfl rfl Try.func13 (by kernel_rfl) rfl #[.string a0] rfl (by (try simp only [List.map_toArray, List.map_cons, List.map_nil]); first | done | rfl | (simp only [List.length_drop, List.length_take]; rfl)) ?_; (with_reducible refine (corporaref05_Parse.calls k a0 t424 t425 _ A3.out).mono ?_); rintro e w17 ⟨v426, rfl, ho0, hb⟩; refine ⟨_, rfl, ?_⟩; have n0_ := Aside0.mk (Kd.R_lower ho0 (below_size (by repeat (first | (with_reducible first | exact HB.out | apply below_alloc | apply pw_below_drewN | apply below_drew1) | exact HB.out)))); have n1_ := Aside0.mk (below_step (by repeat (first | (with_reducible first | exact HB.out | apply below_alloc | apply pw_below_drewN | apply below_drew1) | exact HB.out)) hb); clear HB; have HO427 := n0_; have HB := n1_; clear n0_ n1_; (try clear hb); (try clear hb2); (try clear hk); (try clear hi); (try clear ho0)) | ((with_reducible refine gate_callee (f := 13) rfl ?_); refine goesL_ (some 21) rfl rfl Try.func13 (by kernel_rfl) rfl #[.string a1] rfl (by (try simp only [List.map_toArray, List.map_cons, List.map_nil]); first | done | rfl | (simp only [List.length_drop, List.length_take]; rfl)) ?_; (with_reducible refine (corporaref05_Parse.calls k a1 t428 t429 _ A5.out).mono ?_); rintro e w18 ⟨v430, rfl, ho0, hb⟩; refine ⟨_, rfl, ?_⟩; have n0_ := Aside0.mk (Kd.R_elder' (by (with_reducible repeat (first | apply Kd.R_alloc | apply Kd.R_drewN | apply Kd.R_drew)); exact HO427.out) (Kd.R_base ho0) hb); have n1_ := Aside0.mk (Kd.R_lower (Kd.R_new' ho0 (Kd.R_lt (by (with_reducible repeat (first | apply Kd.R_alloc | apply Kd.R_drewN | apply Kd.R_drew)); exact HO427.out))) (below_size (by repeat (first | (with_reducible first | exact HB.out | apply below_alloc | apply pw_below_drewN | apply below_drew1) | exact HB.out)))); have n2_ := Aside0.mk (below_step (by repeat (first | (with_reducible first | exact HB.out | apply below_alloc | apply pw_below_drewN | apply below_drew1) | exact HB.out)) hb); clear HO427; clear HB; have HO427 := n0_; have HO431 := n1_; have HB := n2_; clear n0_ n1_ n2_; (try clear hb); (try clear hb2); (try clear hk); (try clear hi); (try clear ho0)))
      go_ret2
      exact ⟨by first | rfl | (simp [errW_none, errW_some] <;> rfl) | (simp [*, errW_none, errW_some] <;> rfl), by repeat (first | (with_reducible first | exact HB.out | apply below_alloc | apply pw_below_drewN | apply below_drew1) | exact HB.out)⟩
  · rw [if_neg c4] at H
    have c4b0 : (t425 == 0) = false := beq_eq_false_iff_ne.mpr c4
    have c4b1 : (t425 != 0) = true := bne_iff_ne.mpr c4
    simp only [Option.some.injEq, Prod.mk.injEq] at H
    obtain ⟨rfl, rfl⟩ := H
    go_enter Try.func25, Try.ntmps25
    go_wp2_with (first | ((with_reducible refine gate_callee (f := 13) rfl ?_); refine goesL_ (some 13) rfl rfl Try.func13 (by kernel_rfl) rfl #[.string a0] rfl (by (try simp only [List.map_toArray, List.map_cons, List.map_nil]); first | done | rfl | (simp only [List.length_drop, List.length_take]; rfl)) ?_; (with_reducible refine (corporaref05_Parse.calls k a0 t424 t425 _ A3.out).mono ?_); rintro e w19 ⟨v426, rfl, ho0, hb⟩; refine ⟨_, rfl, ?_⟩; have n0_ := Aside0.mk (Kd.R_lower ho0 (below_size (by repeat (first | (with_reducible first | exact HB.out | apply below_alloc | apply pw_below_drewN | apply below_drew1) | exact HB.out)))); have n1_ := Aside0.mk (below_step (by repeat (first | (with_reducible first | exact HB.out | apply below_alloc | apply pw_below_drewN | apply below_drew1) | exact HB.out)) hb); clear HB; have HO427 := n0_; have HB := n1_; clear n0_ n1_; (try clear hb); (try clear hb2); (try clear hk); (try clear hi); (try clear ho0)))
    go_ret2
    exact ⟨by first | rfl | (simp [errW_none, errW_some] <;> rfl) | (simp [*, errW_none, errW_some] <;> rfl), by repeat (first | (with_reducible first | exact HB.out | apply below_alloc | apply pw_below_drewN | apply below_drew1) | exact HB.out)⟩

end Go.Proofs.Ytcgglamgemgeiaa.Q
/- FCorporalaw05Equal -/
namespace Go.Proofs.Ytcgglamgemgeiaa.Q
open Go.RowKit Go.Proofs.YtcgglamgemgeiaaW.PrintWords Go.Proofs.YtcgglamgemgeiaaW.PrintLast Go.Proofs.YtcgglamgemgeiaaW.PrintMore
attribute [local go_sem] max2_int min2_int max_two min_two max_three min_three max_four min_four   -- for this text's walks alone
set_option linter.unusedVariables false
set_option linter.unusedSimpArgs false

/-! ### corporalaw05_equal: function 14 -/
def corporalaw05_equal.l0 : Nat → List ByteArray → List ByteArray → Int → Int → Option (Bool)
  | 0, _, _, _, _ => none
  | k + 1, x0, x1, x12, x13 => if x13 < x12 then (if 0 ≤ x13 then (if x13 < (x0.length : Int) then (if x13 < (x1.length : Int) then (if (rdOf ByteArray.empty x0 x13).toList = (rdOf ByteArray.empty x1 x13).toList then (corporalaw05_equal.l0 k x0 x1 x12 (wrap64 (x13 + 1))) else (some false)) else (none)) else (none)) else (none)) else (some true)
def corporalaw05_equal.f (k : Nat) (l0 : List ByteArray) (l1 : List ByteArray) : Option (Bool) := if (l0.length : Int) = (l1.length : Int) then (corporalaw05_equal.l0 k l0 l1 (l0.length : Int) 0) else (some false)
theorem corporalaw05_equal.mono_l : ∀ k, (∀ y0 y1 y2 y3, LeO (corporalaw05_equal.l0 k y0 y1 y2 y3) (corporalaw05_equal.l0 (k + 1) y0 y1 y2 y3))
  | 0 => fun _ _ _ _ r h => by simp [corporalaw05_equal.l0] at h
  | k + 1 => by
    have ih0 := corporalaw05_equal.mono_l k
    · intro y0 y1 y2 y3
      unfold corporalaw05_equal.l0
      repeat' first
      | (with_reducible exact ih0 _ _ _ _)
      | (with_reducible exact LeO.refl _)
      | (with_reducible exact LeO.none _)
      | (with_reducible refine LeO.ite ?_ ?_)
      | (with_reducible refine LeO.bind ?_ (fun _ => ?_))
      | exact ih0 _ _ _ _
      | exact LeO.none _
      | refine LeO.ite ?_ ?_
      | refine LeO.bind ?_ (fun _ => ?_)
theorem corporalaw05_equal.mono : ∀ a0 a1 k, LeO (corporalaw05_equal.f k a0 a1) (corporalaw05_equal.f (k + 1) a0 a1) := by
  intro a0 a1 k
  have ih0 := corporalaw05_equal.mono_l k
  unfold corporalaw05_equal.f
  repeat' first
      | (with_reducible exact ih0 _ _ _ _)
      | (with_reducible exact LeO.refl _)
      | (with_reducible exact LeO.none _)
      | (with_reducible refine LeO.ite ?_ ?_)
      | (with_reducible refine LeO.bind ?_ (fun _ => ?_))
      | exact ih0 _ _ _ _
      | exact LeO.none _
      | refine LeO.ite ?_ ?_
      | refine LeO.bind ?_ (fun _ => ?_)
set_option maxHeartbeats 8000000 in
set_option maxRecDepth 100000 in
theorem corporalaw05_equal.calls (k : Nat) (A0 : Option Addr) (c0 : Nat) (l0 : List ByteArray) (A1 : Option Addr) (c1 : Nat) (l1 : List ByteArray) (r : Bool) (w : World) (hr0 : Kd.C Kd.string w A0 l0.length l0) (hc0 : l0.length ≤ c0) (hr1 : Kd.C Kd.string w A1 l1.length l1) (hc1 : l1.length ≤ c1) (h : corporalaw05_equal.f k l0 l1 = some r) :
    Calls Try.prog 14 #[.slice A0 l0.length c0, .slice A1 l1.length c1] w fun e w' => e = .returned (.bool r) ∧ Drawn0 w w' := by
  have HR0 := Aside0.mk hr0
  have HC0 := Aside0.mk hc0
  clear hr0 hc0
  have HR1 := Aside0.mk hr1
  have HC1 := Aside0.mk hc1
  clear hr1 hc1
  have H : (if (l0.length : Int) = (l1.length : Int) then (corporalaw05_equal.l0 k l0 l1 (l0.length : Int) 0) else (some false)) = some r := h
  clear h
  by_cases c3 : (l0.length : Int) = (l1.length : Int)
  · rw [if_pos c3] at H
    have c3b0 : ((l0.length : Int) == (l1.length : Int)) = true := beq_iff_eq.mpr c3
    have c3b1 : ((l0.length : Int) != (l1.length : Int)) = false := bne_eq_false_iff_eq.mpr c3
    have c3b2 : (l0.length == l1.length) = true := by first | simpa using c3 | (simp at c3 ⊢; omega)
    clear c3
    have H' := Aside0.mk H
    clear H
    go_enter Try.func14, Try.ntmps14
    go_wp2
    repeat (go_quiet (fail); try go_wp2)
    go_loopg [13] k (fun kq v13 w' => ∃ (x13_1 : Int), v13 = .int .i64 x13_1 ∧ Aside0 (corporalaw05_equal.l0 kq l0 l1 (l0.length : Int) x13_1 = some r) ∧ Aside0 (kq ≤ k) ∧ Drawn0 w w')
    case atStart => exact ⟨(0), (by first | rfl | (simp; done) | (simp [*]; done)), H', ⟨Nat.le_refl _⟩, by repeat (first | exact Drawn0.refl _ | apply Drawn0.step)⟩
    case round =>
      clear H'
      try clear c1
      try clear p2
      try clear c3
      try clear c3b0
      try clear c3b1
      try clear c3b2
      obtain ⟨x13_1, rfl, HA, HK1, ⟨m1, rfl⟩⟩ := hrel
      cases gk with
      | zero => exact absurd HA.out (by simp [corporalaw05_equal.l0])
      | succ k1 =>
        have H := HA.out
        clear HA
        simp only [corporalaw05_equal.l0] at H
        by_cases c4 : x13_1 < (l0.length : Int)
        · rw [if_pos c4] at H
          have c4b0 : decide (x13_1 < (l0.length : Int)) = true := decide_eq_true c4
          clear c4
          by_cases c5 : 0 ≤ x13_1
          · rw [if_pos c5] at H
            have c5b0 : decide (0 ≤ x13_1) = true := decide_eq_true c5
            clear c5
            by_cases c6 : x13_1 < (l0.length : Int)
            · rw [if_pos c6] at H
              have c6b0 : decide (x13_1 < (l0.length : Int)) = true := decide_eq_true c6
              clear c6
              by_cases c7 : x13_1 < (l1.length : Int)
              · rw [if_pos c7] at H
                have c7b0 : decide (x13_1 < (l1.length : Int)) = true := decide_eq_true c7
                clear c7
                by_cases c8 : (rdOf ByteArray.empty l0 x13_1).toList = (rdOf ByteArray.empty l1 x13_1).toList
                · rw [if_pos c8] at H
                  have c8b0 : ((rdOf ByteArray.empty l0 x13_1).toList == (rdOf ByteArray.empty l1 x13_1).toList) = true := beq_iff_eq.mpr c8
                  have c8b1 : ((rdOf ByteArray.empty l0 x13_1).toList != (rdOf ByteArray.empty l1 x13_1).toList) = false := bne_eq_false_iff_eq.mpr c8
                  clear c8
                  have H' := Aside0.mk H
                  clear H
                  have p127 : 0 ≤ (x13_1 : Int) := of_decide_eq_true (by first | (with_reducible assumption) | assumption)
                  have q127 : x13_1 < (l0.length : Int) := of_decide_eq_true (by first | (with_reducible assumption) | assumption)
                  obtain ⟨ad127, e127, hx127_0⟩ := Kd.at_string HR0.out x13_1 p127 q127
                  cases e127
                  replace p127 := eq_true p127
                  replace q127 := eq_true q127
                  have p128 : 0 ≤ (x13_1 : Int) := of_decide_eq_true (by first | (with_reducible assumption) | assumption)
                  have q128 : x13_1 < (l1.length : Int) := of_decide_eq_true (by first | (with_reducible assumption) | assumption)
                  obtain ⟨ad128, e128, hx128_0⟩ := Kd.at_string HR1.out x13_1 p128 q128
                  cases e128
                  replace p128 := eq_true p128
                  replace q128 := eq_true q128
                  go_wp2
                  repeat (go_quiet (fail); try go_wp2)
                  go_roundg k1
                  case measure => have := HK1.out; omega
                  case rel => exact ⟨(wrap64 (x13_1 + 1)), (by first | rfl | (simp; done) | (simp [*]; done)), H', ⟨by have := HK1.out; omega⟩, by repeat (first | exact Drawn0.refl _ | apply Drawn0.step)⟩
                · rw [if_neg c8] at H
                  have c8b0 : ((rdOf ByteArray.empty l0 x13_1).toList == (rdOf ByteArray.empty l1 x13_1).toList) = false := beq_eq_false_iff_ne.mpr c8
                  have c8b1 : ((rdOf ByteArray.empty l0 x13_1).toList != (rdOf ByteArray.empty l1 x13_1).toList) = true := bne_iff_ne.mpr c8
                  obtain rfl := Option.some.inj H
                  have p127 : 0 ≤ (x13_1 : Int) := of_decide_eq_true (by first | (with_reducible assumption) | assumption)
                  have q127 : x13_1 < (l0.length : Int) := of_decide_eq_true (by first | (with_reducible assumption) | assumption)
                  obtain ⟨ad127, e127, hx127_0⟩ := Kd.at_string HR0.out x13_1 p127 q127
                  cases e127
                  replace p127 := eq_true p127
                  replace q127 := eq_true q127
                  have p128 : 0 ≤ (x13_1 : Int) := of_decide_eq_true (by first | (with_reducible assumption) | assumption)
                  have q128 : x13_1 < (l1.length : Int) := of_decide_eq_true (by first | (with_reducible assumption) | assumption)
                  obtain ⟨ad128, e128, hx128_0⟩ := Kd.at_string HR1.out x13_1 p128 q128
                  cases e128
                  replace p128 := eq_true p128
                  replace q128 := eq_true q128
                  go_wp2
                  repeat (go_quiet (fail); try go_wp2)
                  go_ret
                  exact ⟨by first | rfl | (simp; done) | (simp [*]; done), by repeat (first | exact Drawn0.refl _ | apply Drawn0.step)⟩
              · rw [if_neg c7] at H
                exact absurd H (by simp)
            · rw [if_neg c6] at H
              exact absurd H (by simp)
          · rw [if_neg c5] at H
            exact absurd H (by simp)
        · rw [if_neg c4] at H
          have c4b0 : decide (x13_1 < (l0.length : Int)) = false := decide_eq_false c4
          clear c4
          obtain rfl := Option.some.inj H
          go_wp2
          repeat (go_quiet (fail); try go_wp2)
          go_ret
          exact ⟨by first | rfl | (simp; done) | (simp [*]; done), by repeat (first | exact Drawn0.refl _ | apply Drawn0.step)⟩
  · rw [if_neg c3] at H
    have c3b0 : ((l0.length : Int) == (l1.length : Int)) = false := beq_eq_false_iff_ne.mpr c3
    have c3b1 : ((l0.length : Int) != (l1.length : Int)) = true := bne_iff_ne.mpr c3
    have c3b2 : (l0.length == l1.length) = false := by first | simpa using c3 | (simp at c3 ⊢; omega)
    obtain rfl := Option.some.inj H
    go_enter Try.func14, Try.ntmps14
    go_wp2
    repeat (go_quiet (fail); try go_wp2)
    go_ret
    exact ⟨by first | rfl | (simp; done) | (simp [*]; done), by repeat (first | exact Drawn0.refl _ | apply Drawn0.step)⟩

end Go.Proofs.Ytcgglamgemgeiaa.Q
/- FEvR -/
namespace Go.Proofs.Ytcgglamgemgeiaa.Q
open Go.RowKit Go.Lib Go.Proofs.YtcgglamgemgeiaaW.PrintWords Go.Proofs.YtcgglamgemgeiaaW.PrintLast
/-! ### Parse -/
theorem rparse_l1 (l : List ByteArray) (hl : l.length ≤ 1073741824) : ∀ d i : Nat, 1 ≤ i → i + d = l.length + 1 → Ev (fun k => corporaref05_Parse.l1 k l (i : Int)) (if srt (l.drop (i - 1)) = true then (l, 0) else ([], 6)) := by
  intro d
  induction d with
  | zero =>
    intro i h1 hd
    refine Ev.step (fun k => by rw [corporaref05_Parse.l1]) ?_
    rw [srt_short (by rw [List.length_drop]; omega), if_pos rfl]
    exact ev_neg (by omega) (Ev.now _)
  | succ d ih =>
    intro i h1 hd
    refine Ev.step (fun k => by rw [corporaref05_Parse.l1]) ?_
    by_cases hi : i < l.length
    · refine ev_pos (by omega) ?_
      rw [wrap_dn i h1 (by omega)]
      refine ev_pos (by omega) (ev_pos (by omega) (ev_pos (by omega) ?_))
      rw [rd_nat (show i - 1 < l.length by omega), rd_nat hi, lt_eq]
      have e : l.drop (i - 1) = l[i - 1] :: l[i] :: l.drop (i + 1) := by
        rw [List.drop_eq_getElem_cons (show i - 1 < l.length by omega)]
        have : i - 1 + 1 = i := by omega
        rw [this, List.drop_eq_getElem_cons hi]
      have e2 : l.drop (i + 1 - 1) = l[i] :: l.drop (i + 1) := by rw [Nat.add_sub_cancel, List.drop_eq_getElem_cons hi]
      by_cases hlt : lt l[i - 1] l[i] = true
      · refine ev_pos hlt ?_
        rw [wrap_up i (by omega), e, srt, hlt, Bool.true_and, ← e2]
        exact ih (i + 1) (by omega) (by omega)
      · refine ev_neg hlt ?_
        rw [e, srt]
        have : lt l[i - 1] l[i] = false := by simpa using hlt
        rw [this, Bool.false_and]
        exact Ev.now _
    · obtain rfl : i = l.length := by omega
      rw [srt_short (by rw [List.length_drop]; omega), if_pos rfl]
      exact ev_neg (by omega) (Ev.now _)
theorem rparse_l0 (s : ByteArray) (hs : s.size ≤ 120) : ∀ (d i frm : Nat) (acc : List ByteArray), 1 ≤ frm → frm ≤ i → i + d = s.size → acc.length ≤ i →
    Ev (fun k => corporaref05_Parse.l0 k s (s.size : Int) acc (frm : Int) (i : Int)) (PL acc ((bl s).drop i) (((bl s).drop frm).take (i - frm))) := by
  intro d
  induction d with
  | zero =>
    intro i frm acc h0 h1 hd ha
    refine Ev.step (fun k => by rw [corporaref05_Parse.l0]) ?_
    refine ev_neg (by omega) ?_
    have : (bl s).drop i = [] := List.drop_eq_nil_of_le (by rw [bl_length]; omega)
    rw [this]
    have := rparse_l1 acc (by omega) acc.length 1 (by omega) (by omega)
    unfold PL spl SR
    simpa using this
  | succ d ih =>
    intro i frm acc h0 h1 hd ha
    have hi : i < (bl s).length := by rw [bl_length]; omega
    refine Ev.step (fun k => by rw [corporaref05_Parse.l0]) ?_
    refine ev_pos (by omega) (ev_pos (by omega) (ev_pos (by omega) ?_))
    rw [List.drop_eq_getElem_cons hi]
    by_cases hb : (bl s)[i] = 124
    · refine ev_pos ((bt_124 hi).2 hb) ?_
      by_cases he : i = frm
      · refine ev_pos (by omega) ?_
        subst he
        unfold PL
        rw [Nat.sub_self, List.take_zero, spl, if_pos hb, if_pos rfl]
        exact Ev.now _
      · refine ev_neg (by omega) (ev_pos (by omega) (ev_pos (by omega) (ev_pos (by omega) (ev_pos (by omega) ?_))))
        rw [wrap_up i (by omega), Int.toNat_natCast, Int.toNat_natCast]
        refine ev_eq (ih (i + 1) (i + 1) _ (by omega) (by omega) (by omega) (by rw [List.length_append, List.length_singleton]; omega)) ?_
        unfold PL
        rw [Nat.sub_self, List.take_zero, spl, if_pos hb]
        have hne : ((bl s).drop frm).take (i - frm) ≠ [] := by
          intro h
          have := congrArg List.length h
          rw [List.length_take, List.length_drop, bl_length] at this
          simp at this; omega
        rw [if_neg hne]
        cases hsp : spl ((bl s).drop (i + 1)) [] with
        | none => rfl
        | some m =>
          have : s.extract frm i = mkB (((bl s).drop frm).take (i - frm)) := bl_inj (by rw [bl_mkB, bl_extract])
          simp [this]
    · refine ev_neg (fun h => hb ((bt_124 hi).1 h)) ?_
      rw [wrap_up i (by omega)]
      refine ev_eq (ih (i + 1) frm _ h0 (by omega) (by omega) (by omega)) ?_
      unfold PL
      rw [spl, if_neg hb]
      have : ((bl s).drop frm).take (i + 1 - frm) = ((bl s).drop frm).take (i - frm) ++ [(bl s)[i]] := by
        have e1 : i + 1 - frm = (i - frm) + 1 := by omega
        have : frm + (i - frm) = i := by omega
        rw [e1, List.take_add_one, List.getElem?_drop, this, List.getElem?_eq_getElem hi]
        rfl
      rw [this]
theorem rparse_ev (s : ByteArray) : Ev (fun k => corporaref05_Parse.f k s) (PR s) := by
  unfold corporaref05_Parse.f corporaref04_ValidValue.f
  refine ev_some ?_
  by_cases h0 : vv s = 0
  · refine ev_pos h0 ?_
    have hz := (vv_zero.1 h0).1
    have hpr : PR s = if (bl s).head? ≠ some 124 ∨ (bl s).getLast? ≠ some 124 then ([], 3) else PL [] (bl s).tail [] := by
      unfold PR PL SR
      rw [if_neg (by simp [h0])]
      first
        | (simp only [List.nil_append]; done)
        | (simp only [List.nil_append]; rfl)
    have three : ∀ {r : List ByteArray × Int}, r = ([], 3) → Ev (fun k => corporaref05_Parse.j0 k s (s.size : Int) true) r := fun h => Ev.step (fun k => by rw [corporaref05_Parse.j0]) (ev_pos rfl (ev_now h.symm))
    rw [hpr]
    have hl := bl_length s
    by_cases h2 : (s.size : Int) = 0
    · refine ev_pos h2 (three (if_pos (.inl ?_)))
      have : bl s = [] := List.eq_nil_of_length_eq_zero (by omega)
      rw [this]; simp
    · refine ev_neg h2 (ev_pos (by omega) ?_)
      have k0 : 0 < (bl s).length := by omega
      have k1 : s.size - 1 < (bl s).length := by omega
      have e0 : (bl s).head? = some (bl s)[0] := by rw [List.head?_eq_getElem?, List.getElem?_eq_getElem k0]
      have e1 : (bl s).getLast? = some (bl s)[s.size - 1] := by rw [List.getLast?_eq_getElem?, hl, List.getElem?_eq_getElem k1]
      rw [e0, e1, show ((s.size : Int) - 1) = ((s.size : Nat) : Int) - 1 from rfl, wrap_dn s.size (by omega) (by omega)]
      by_cases h3 : (bl s)[0] = 124
      · refine ev_pos ((bt_124 k0).2 h3) (ev_pos (by omega) (ev_pos (by omega) ?_))
        by_cases h4 : (bl s)[s.size - 1] = 124
        · have hb : (bt s ((s.size - 1 : Nat) : Int) != 124) = false := by rw [bne_eq_false_iff_eq]; exact (bt_124 k1).2 h4
          rw [hb, if_neg (by simp [h3, h4])]
          refine Ev.step (fun k => by rw [corporaref05_Parse.j0]) (ev_neg (by simp) ?_)
          have := rparse_l0 s hz (s.size - 1) 1 1 [] (by omega) (by omega) (by omega) (by simp)
          rw [Nat.sub_self, List.take_zero, List.drop_one] at this
          exact this
        · have hb : (bt s ((s.size - 1 : Nat) : Int) != 124) = true := by rw [bne_iff_ne]; exact fun h => h4 ((bt_124 k1).1 h)
          rw [hb]
          exact three (if_pos (.inr (by simp [h4])))
      · exact ev_neg (fun h => h3 ((bt_124 k0).1 h)) (three (if_pos (.inl (by simp [h3]))))
  · refine ev_neg h0 (ev_now ?_)
    unfold PR; rw [if_pos h0]
/-! ### member, text, In, Format -/
theorem member_loop (l : List ByteArray) (f : ByteArray) (hl : l.length ≤ 1073741824) : ∀ d i : Nat, i + d = l.length → Ev (fun k => corporaref05_member.l0 k f l (l.length : Int) (i : Int)) (memb (l.drop i) f) := by
  intro d
  induction d with
  | zero =>
    intro i hd
    refine Ev.step (fun k => by rw [corporaref05_member.l0]) ?_
    rw [List.drop_eq_nil_of_le (by omega)]
    exact ev_neg (by omega) (Ev.now _)
  | succ d ih =>
    intro i hd
    have hi : i < l.length := by omega
    refine Ev.step (fun k => by rw [corporaref05_member.l0]) ?_
    refine ev_pos (by omega) (ev_pos (by omega) (ev_pos (by omega) ?_))
    rw [rd_nat hi, List.drop_eq_getElem_cons hi]
    by_cases he : l[i] = f
    · refine ev_pos (toList_eq_iff.2 he) (ev_now ?_)
      unfold memb; rw [List.any_cons, decide_eq_true he, Bool.true_or]
    · refine ev_neg (fun h => he (toList_eq_iff.1 h)) ?_
      rw [wrap_up i (by omega)]
      refine ev_eq (ih (i + 1) (by omega)) ?_
      unfold memb; rw [List.any_cons, decide_eq_false he, Bool.false_or]
theorem member_ev (l : List ByteArray) (f : ByteArray) (hl : l.length ≤ 1073741824) : Ev (fun k => corporaref05_member.f k l f) (memb l f) := member_loop l f hl l.length 0 (by omega)
theorem text_loop (l : List ByteArray) (hl : l.length ≤ 1073741824) (hsz : ∀ g ∈ l, g.size ≤ 120) : ∀ (d i : Nat) (out : ByteArray), i + d = l.length → out.size ≤ 1 + 121 * i →
    Ev (fun k => corporaref05_text.l0 k out l (l.length : Int) (i : Int)) (mkB (bl out ++ tailT (l.drop i))) := by
  intro d
  induction d with
  | zero =>
    intro i out hd ho
    refine Ev.step (fun k => by rw [corporaref05_text.l0]) (ev_neg (by omega) (ev_now ?_))
    rw [List.drop_eq_nil_of_le (by omega), tailT, List.append_nil, mkB_bl]
  | succ d ih =>
    intro i out hd ho
    have hi : i < l.length := by omega
    have hg := hsz l[i] (List.getElem_mem hi)
    refine Ev.step (fun k => by rw [corporaref05_text.l0]) (ev_pos (by omega) (ev_pos (by omega) (ev_pos (by omega) ?_)))
    rw [rd_nat hi]
    have s1 : (l[i] ++ (⟨#[124]⟩ : ByteArray)).size = l[i].size + 1 := by rw [ByteArray.size_append]; rfl
    have s2 : (out ++ (l[i] ++ (⟨#[124]⟩ : ByteArray))).size = out.size + (l[i].size + 1) := by rw [ByteArray.size_append, s1]
    rw [s1]
    refine ev_pos (by omega) (ev_pos (by omega) ?_)
    have ht : tailT (l.drop i) = bl l[i] ++ 124 :: tailT (l.drop (i + 1)) := by rw [List.drop_eq_getElem_cons hi, tailT]
    rw [wrap_up i (by omega)]
    refine ev_eq (ih (i + 1) _ (by omega) (by rw [s2]; omega)) ?_
    have e2 : bl (out ++ (l[i] ++ (⟨#[124]⟩ : ByteArray))) ++ tailT (l.drop (i + 1)) = bl out ++ tailT (l.drop i) := by
      rw [bl_append, bl_append, ht]
      show bl out ++ (bl l[i] ++ [124]) ++ _ = _
      simp
    rw [e2]
theorem text_ev (l : List ByteArray) (hl : l.length ≤ 1073741824) (hsz : ∀ g ∈ l, g.size ≤ 120) : Ev (fun k => corporaref05_text.f k l) (text l) :=
  ev_eq (text_loop l hl hsz l.length 0 (⟨#[124]⟩ : ByteArray) (by omega) (by decide)) rfl
theorem in_loop (b : List Int) (c : Int) (hb : b.length ≤ 1073741824) : ∀ d i : Nat, i + d = b.length → Ev (fun k => corporaref05_In.l0 k c b (b.length : Int) (i : Int)) ((b.drop i).any (fun x => decide (x = c))) := by
  intro d
  induction d with
  | zero =>
    intro i hd
    refine Ev.step (fun k => by rw [corporaref05_In.l0]) ?_
    rw [List.drop_eq_nil_of_le (by omega)]
    exact ev_neg (by omega) (Ev.now _)
  | succ d ih =>
    intro i hd
    have hi : i < b.length := by omega
    have hr : rd b (i : Int) = b[i] := by unfold rd; rw [Int.toNat_natCast, List.getD_eq_getElem?_getD, List.getElem?_eq_getElem hi]; rfl
    refine Ev.step (fun k => by rw [corporaref05_In.l0]) ?_
    refine ev_pos (by omega) (ev_pos (by omega) (ev_pos (by omega) ?_))
    rw [hr, List.drop_eq_getElem_cons hi, List.any_cons]
    by_cases he : b[i] = c
    · refine ev_pos he (ev_now ?_)
      rw [decide_eq_true he, Bool.true_or]
    · refine ev_neg he ?_
      rw [wrap_up i (by omega), decide_eq_false he, Bool.false_or]
      exact ih (i + 1) (by omega)
theorem in_ev (f : ByteArray) (hf : f.size ≤ 120) : Ev (fun k => inF_ k f 124) (decide ((124 : UInt8) ∈ bl f)) := by
  unfold inF_
  refine ev_pos (by omega) ?_
  refine ev_eq (in_loop (bytesOf f) 124 (by rw [bytesOf_length]; omega) (bytesOf f).length 0 (by omega)) ?_
  rw [List.drop_zero, Bool.eq_iff_iff, List.any_eq_true, decide_eq_true_iff]
  unfold bytesOf bl
  constructor
  · rintro ⟨x, hx, h⟩
    obtain ⟨b, hb, rfl⟩ := List.mem_map.1 hx
    have h1 := of_decide_eq_true h
    have : b = 124 := UInt8.toNat_inj.1 (by rw [show (124 : UInt8).toNat = 124 from rfl]; omega)
    rw [← this]; exact hb
  · intro h
    exact ⟨124, List.mem_map.2 ⟨124, h, rfl⟩, by decide⟩
theorem rformat_l0 (m : List ByteArray) (hm : m.length ≤ 1073741824) : ∀ (d i : Nat) (acc : List ByteArray), i + d = m.length → acc.length ≤ i → (∀ g ∈ acc, g.size ≤ 120) →
    Ev (fun k => corporaref05_Format.l0 k acc m (m.length : Int) (i : Int)) (FMof (fmGo (m.drop i) acc)) := by
  intro d
  induction d with
  | zero =>
    intro i acc hd ha hz
    refine Ev.step (fun k => by rw [corporaref05_Format.l0]) (ev_neg (by omega) ?_)
    rw [List.drop_eq_nil_of_le (by omega), fmGo]
    refine Ev.bind (text_ev acc (by omega) hz) ?_
    unfold FMof
    simp only [ne_eq, not_true_eq_false, if_false]
    by_cases h : 120 < (text acc).size
    · rw [if_pos h]; exact ev_pos (by omega) (Ev.now _)
    · rw [if_neg h]; exact ev_neg (by omega) (Ev.now _)
  | succ d ih =>
    intro i acc hd ha hz
    have hi : i < m.length := by omega
    refine Ev.step (fun k => by rw [corporaref05_Format.l0]) (ev_pos (by omega) (ev_pos (by omega) (ev_pos (by omega) ?_)))
    rw [rd_nat hi, List.drop_eq_getElem_cons hi, fmGo]
    unfold corporaref04_ValidValue.f
    refine ev_some ?_
    by_cases h0 : vv m[i] = 0
    · refine ev_pos h0 ?_
      rw [if_neg (by simp [h0]), toList_bl]
      by_cases h1 : bl m[i] = []
      · refine ev_pos h1 (ev_now ?_)
        rw [if_pos (.inl h1)]; rfl
      · refine ev_neg h1 ?_
        refine Ev.bind (in_ev m[i] (vv_zero.1 h0).1) ?_
        by_cases h2 : (124 : UInt8) ∈ bl m[i]
        · refine ev_pos (by simp [h2]) (ev_now ?_)
          rw [if_pos (.inr h2)]; rfl
        · refine ev_neg (by simp [h2]) ?_
          rw [if_neg (by simp [h1, h2])]
          have hins : Ev (fun k => corporaref05_insert.f k acc m[i]) (insB acc m[i]) := by
            unfold corporaref05_insert.f
            exact ev_pos (by omega) (Ev.now _)
          refine Ev.bind hins ?_
          rw [wrap_up i (by omega)]
          exact ih (i + 1) _ (by omega) (by have := insB_length acc m[i]; omega) (insB_small hz (vv_zero.1 h0).1)
    · refine ev_neg h0 (ev_now ?_)
      rw [if_pos h0]
      unfold FMof
      rw [if_pos h0]
theorem rformat_ev (m : List ByteArray) (hm : m.length ≤ 1073741824) : Ev (fun k => corporaref05_Format.f k m) (FM m) :=
  rformat_l0 m hm m.length 0 [] (by omega) (by simp) (by simp)
/-! ### the operations -/
theorem rhas_ev (s f : ByteArray) : Ev (fun k => corporaref05_Has.f k s f) (HS s f) := by
  unfold corporaref05_Has.f HS
  refine Ev.bind (rparse_ev s) ?_
  by_cases h : (PR s).2 = 0
  · refine ev_pos h (Ev.bind (member_ev _ f (by have := PR_len s; omega)) (ev_now ?_))
    simp [h]
  · refine ev_neg h (ev_now ?_)
    simp [h]
theorem runion_ev (a b : ByteArray) : Ev (fun k => corporaref05_Union.f k a b) (UN a b) := by
  unfold corporaref05_Union.f UN
  refine Ev.bind (rparse_ev a) ?_
  have l1 := PR_len a
  have l2 := PR_len b
  by_cases h1 : (PR a).2 = 0
  · refine ev_pos h1 (Ev.bind (rparse_ev b) ?_)
    rw [if_neg (by simp [h1])]
    by_cases h2 : (PR b).2 = 0
    · rw [if_neg (by simp [h2])]
      refine ev_pos h2 (ev_pos (show ([] : List ByteArray).length + (PR a).1.length < 8796093022208 by simp only [List.length_nil]; omega) (ev_some ?_))
      rw [List.nil_append]
      refine ev_pos (show (PR a).1.length + (PR b).1.length < 8796093022208 by omega) ?_
      exact Ev.bind (rformat_ev ((PR a).1 ++ (PR b).1) (by rw [List.length_append]; omega)) (ev_now rfl)
    · refine ev_neg h2 (ev_now ?_)
      rw [if_pos h2]
  · refine ev_neg h1 (ev_now ?_)
    rw [if_pos h1]
theorem rintersect_loop (x y : List ByteArray) (hx : x.length ≤ 120) (hy : y.length ≤ 120) (hz : ∀ f ∈ x, f.size ≤ 120) : ∀ (d i : Nat) (acc : List ByteArray), i + d = x.length → acc.length ≤ i → (∀ f ∈ acc, f.size ≤ 120) →
    Ev (fun k => corporaref05_Intersect.l0 k y acc x (x.length : Int) (i : Int)) (text (acc ++ (x.drop i).filter (memb y)), 0) := by
  intro d
  induction d with
  | zero =>
    intro i acc hd ha hs
    refine Ev.step (fun k => by rw [corporaref05_Intersect.l0]) (ev_neg (by omega) ?_)
    rw [List.drop_eq_nil_of_le (by omega), List.filter_nil, List.append_nil]
    exact Ev.bind (text_ev acc (by omega) hs) (ev_now rfl)
  | succ d ih =>
    intro i acc hd ha hs
    have hi : i < x.length := by omega
    refine Ev.step (fun k => by rw [corporaref05_Intersect.l0]) (ev_pos (by omega) (ev_pos (by omega) (ev_pos (by omega) ?_)))
    rw [rd_nat hi]
    refine Ev.bind (member_ev y x[i] (by omega)) ?_
    have hdr : x.drop i = x[i] :: x.drop (i + 1) := List.drop_eq_getElem_cons hi
    rw [wrap_up i (by omega)]
    cases hm : memb y x[i] with
    | true =>
      refine ev_pos rfl (ev_pos (by omega) ?_)
      refine ev_eq (ih (i + 1) _ (by omega) (by rw [List.length_append, List.length_singleton]; omega) (fun f hf => ?_)) ?_
      · rcases List.mem_append.1 hf with hf | hf
        · exact hs f hf
        · rw [List.mem_singleton.1 hf]; exact hz _ (List.getElem_mem hi)
      · rw [hdr, List.filter_cons, hm, if_pos rfl, List.append_assoc]; rfl
    | false =>
      refine ev_neg (by simp) ?_
      refine ev_eq (ih (i + 1) _ (by omega) (by omega) hs) ?_
      rw [hdr, List.filter_cons, hm, if_neg (by simp)]
theorem rintersect_ev (a b : ByteArray) : Ev (fun k => corporaref05_Intersect.f k a b) (IS a b) := by
  unfold corporaref05_Intersect.f IS
  refine Ev.bind (rparse_ev a) ?_
  by_cases h1 : (PR a).2 = 0
  · refine ev_pos h1 (Ev.bind (rparse_ev b) ?_)
    rw [if_neg (by simp [h1])]
    by_cases h2 : (PR b).2 = 0
    · rw [if_neg (by simp [h2])]
      refine ev_pos h2 ?_
      have hf := (PR_ok (PR_eta h1)).2.2.1
      refine ev_eq (rintersect_loop (PR a).1 (PR b).1 (PR_len a) (PR_len b) (fun f hf' => (vv_zero.1 (hf f hf').1).1) (PR a).1.length 0 [] (by omega) (by simp) (by simp)) ?_
      rw [List.drop_zero, List.nil_append]
    · refine ev_neg h2 (ev_now ?_)
      rw [if_pos h2]
  · refine ev_neg h1 (ev_now ?_)
    rw [if_pos h1]
theorem rsubset_loop (x y : List ByteArray) (hx : x.length ≤ 120) (hy : y.length ≤ 120) : ∀ (d i : Nat), i + d = x.length →
    Ev (fun k => corporaref05_Subset.l0 k y x (x.length : Int) (i : Int)) ((x.drop i).all (memb y), 0) := by
  intro d
  induction d with
  | zero =>
    intro i hd
    refine Ev.step (fun k => by rw [corporaref05_Subset.l0]) (ev_neg (by omega) ?_)
    rw [List.drop_eq_nil_of_le (by omega)]
    exact Ev.now _
  | succ d ih =>
    intro i hd
    have hi : i < x.length := by omega
    refine Ev.step (fun k => by rw [corporaref05_Subset.l0]) (ev_pos (by omega) (ev_pos (by omega) (ev_pos (by omega) ?_)))
    rw [rd_nat hi]
    refine Ev.bind (member_ev y x[i] (by omega)) ?_
    have hdr : x.drop i = x[i] :: x.drop (i + 1) := List.drop_eq_getElem_cons hi
    rw [wrap_up i (by omega)]
    cases hm : memb y x[i] with
    | true =>
      refine ev_pos rfl ?_
      refine ev_eq (ih (i + 1) (by omega)) ?_
      rw [hdr, List.all_cons, hm, Bool.true_and]
    | false =>
      refine ev_neg (by simp) (ev_now ?_)
      rw [hdr, List.all_cons, hm, Bool.false_and]
theorem rsubset_ev (a b : ByteArray) : Ev (fun k => corporaref05_Subset.f k a b) (SB a b) := by
  unfold corporaref05_Subset.f SB
  refine Ev.bind (rparse_ev a) ?_
  by_cases h1 : (PR a).2 = 0
  · refine ev_pos h1 (Ev.bind (rparse_ev b) ?_)
    rw [if_neg (by simp [h1])]
    by_cases h2 : (PR b).2 = 0
    · rw [if_neg (by simp [h2])]
      exact ev_pos h2 (rsubset_loop (PR a).1 (PR b).1 (PR_len a) (PR_len b) (PR a).1.length 0 (by omega))
    · refine ev_neg h2 (ev_now ?_)
      rw [if_pos h2]
  · refine ev_neg h1 (ev_now ?_)
    rw [if_pos h1]
/-! ### the law's own words -/
theorem equal_loop (a b : List ByteArray) (ha : a.length ≤ 1073741824) (hab : a.length = b.length) : ∀ d i : Nat, i + d = a.length → Ev (fun k => corporalaw05_equal.l0 k a b (a.length : Int) (i : Int)) (decide (a.drop i = b.drop i)) := by
  intro d
  induction d with
  | zero =>
    intro i hd
    refine Ev.step (fun k => by rw [corporalaw05_equal.l0]) (ev_neg (by omega) (ev_now ?_))
    rw [List.drop_eq_nil_of_le (by omega), List.drop_eq_nil_of_le (by omega)]; simp
  | succ d ih =>
    intro i hd
    have hi : i < a.length := by omega
    have hi' : i < b.length := by omega
    refine Ev.step (fun k => by rw [corporalaw05_equal.l0]) (ev_pos (by omega) (ev_pos (by omega) (ev_pos (by omega) (ev_pos (by omega) ?_))))
    rw [rd_nat hi, rd_nat hi', List.drop_eq_getElem_cons hi, List.drop_eq_getElem_cons hi']
    by_cases he : a[i] = b[i]
    · refine ev_pos (toList_eq_iff.2 he) ?_
      rw [wrap_up i (by omega)]
      refine ev_eq (ih (i + 1) (by omega)) ?_
      rw [decide_eq_decide, List.cons.injEq]
      exact ⟨fun h => ⟨he, h⟩, fun h => h.2⟩
    · refine ev_neg (fun h => he (toList_eq_iff.1 h)) (ev_now ?_)
      symm
      rw [decide_eq_false_iff_not, List.cons.injEq]
      exact fun h => he h.1
theorem equal_same (a : List ByteArray) (ha : a.length ≤ 1073741824) : Ev (fun k => corporalaw05_equal.f k a a) true := by
  unfold corporalaw05_equal.f
  exact ev_pos rfl (ev_eq (equal_loop a a ha rfl a.length 0 (by omega)) (by simp))
/-- Whether strings are longer than the laws examine. -/
def lng (l : List ByteArray) : Bool := l.any (fun s => decide (300 < s.size)) || decide (40 < l.length)
theorem long_loop (l : List ByteArray) (hl : l.length ≤ 9223372036854775807) : ∀ d i : Nat, i + d = l.length → Ev (fun k => corporalaw05_long.l0 k l l (l.length : Int) (i : Int)) ((l.drop i).any (fun s => decide (300 < s.size)) || decide (40 < l.length)) := by
  intro d
  induction d with
  | zero =>
    intro i hd
    refine Ev.step (fun k => by rw [corporalaw05_long.l0]) (ev_neg (by omega) (ev_now ?_))
    rw [List.drop_eq_nil_of_le (by omega), List.any_nil, Bool.false_or, decide_eq_decide]; omega
  | succ d ih =>
    intro i hd
    have hi : i < l.length := by omega
    refine Ev.step (fun k => by rw [corporalaw05_long.l0]) (ev_pos (by omega) (ev_pos (by omega) (ev_pos (by omega) ?_)))
    have hw : wrap64 ((i : Int) + 1) = ((i + 1 : Nat) : Int) := by unfold wrap64; omega
    rw [rd_nat hi, List.drop_eq_getElem_cons hi, List.any_cons, hw]
    by_cases h : 300 < l[i].size
    · refine ev_pos (by omega) (ev_now ?_)
      rw [decide_eq_true h]; rfl
    · refine ev_neg (by omega) ?_
      rw [decide_eq_false h, Bool.false_or]
      exact ih (i + 1) (by omega)
theorem long_ev (l : List ByteArray) (hl : l.length ≤ 9223372036854775807) : Ev (fun k => corporalaw05_long.f k l) (lng l) := long_loop l hl l.length 0 (by omega)
end Go.Proofs.Ytcgglamgemgeiaa.Q
/- PureFeatureFormats -/
namespace Go.Proofs.Ytcgglamgemgeiaa.Pure
open Go.RowKit Go.Lib Go.Proofs.Ytcgglamgemgeiaa.Q Go.Proofs.YtcgglamgemgeiaaW.PrintWords Go.Proofs.YtcgglamgemgeiaaW.PrintLast
theorem FeatureFormats (l : List ByteArray) (hl : l.length ≤ 9223372036854775807) : ∃ k, corporalaw05_FeatureFormats.f k l = some true := by
  refine Ev.rounds (g := fun k => corporalaw05_FeatureFormats.f k l) ?_
  unfold corporalaw05_FeatureFormats.f
  refine Ev.bind (long_ev l hl) ?_
  cases hh : lng l with
  | true => exact ev_pos rfl (Ev.now _)
  | false =>
    have h40 : l.length ≤ 40 := by
      unfold lng at hh
      rw [Bool.or_eq_false_iff] at hh
      have := of_decide_eq_false hh.2
      omega
    refine ev_neg (by simp) (Ev.bind (format_ev l (by omega)) (Ev.bind (rformat_ev l (by omega)) ?_))
    exact ev_pos rfl (ev_pos rfl (Ev.bind awake_ev (ev_now rfl)))
end Go.Proofs.Ytcgglamgemgeiaa.Pure
/- LawFeatureFormats -/
namespace Go.Proofs.Ytcgglamgemgeiaa.featureFormats
open Go.ChangeShapes Go.WideShapes Go.ChangeAt Go.RowKit Go.Proofs.YtcgglamgemgeiaaW.PrintWords
set_option linter.unusedVariables false
theorem own : ownKnob Try.prog.godebug = none := by kernel_rfl
theorem laidOut : laidOutB Try.prog = true := by kernel_rfl
theorem cells9 : Try.prog.cellsOf 9 = 1 := by kernel_rfl
/-- A list of strings that came in. -/
theorem strings_in {H : Type} {enc : TypeId × Value → H} {W : World} {v : Value} {x : DataW H × List MemPlace} {fuel : Nat} {base : Nat} {spare : Nat → Bool} {held : Bool}
    (h : DataW.trod enc Try.prog W base spare held fuel 23 [v] = some x) : ∃ A c, ∃ l : List ByteArray, v = .slice A l.length c ∧ l.length ≤ c ∧ Kd.C Kd.string W A l.length l := by
  rcases open_strings Try.underlying23 Try.underlying9 cells9 h with ⟨hcs, hx⟩ | ⟨a, len, cap, ss, hcs, _, hl, hm, hz, hx, hcell, hws⟩
  · obtain rfl : v = .slice none 0 0 := by simpa using hcs
    exact ⟨none, 0, [], rfl, Nat.le_refl _, Kd.C_of_reads (enc := Value.string) (d := ByteArray.empty) (h1 := fun _ => rfl) ⟨rfl, by simp, fun hp => by simp at hp⟩⟩
  · obtain rfl : v = .slice (some a) len cap := by simpa using hcs
    have hlen : len ≤ ss.length := by rw [hz]; split <;> omega
    have e : (ss.take len).length = len := by rw [List.length_take]; omega
    refine ⟨some a, cap, ss.take len, by rw [e], by rw [e]; exact hl, ?_⟩
    refine Kd.C_of_reads (enc := Value.string) (d := ByteArray.empty) (h1 := fun _ => rfl) ⟨rfl, by rw [e]; unfold maxLen at hm; omega, fun hp => ⟨a, rfl, fun j hj => ?_⟩⟩
    rw [e] at hj
    rw [hcell j (by omega)]
    have : (ss.take len).getD j ByteArray.empty = ss.getD j ByteArray.empty := by
      rw [List.getD_eq_getElem?_getD, List.getD_eq_getElem?_getD, List.getElem?_take, if_pos hj]
    rw [this]
set_option maxRecDepth 100000 in
theorem lifted (os : Os) (started : os.Started) (H : Type) (enc : TypeId × Value → H) :
    ReturnsInHanded {} Try.checked os 4 .any (Rows.featureFormatsSpec.pre6 enc Try.prog Try.f4 Rows.featureFormatsRow.domain false) (Rows.featureFormatsSpec.post enc Try.prog Try.f4 false true false false) := by
  refine returnsInHanded_of_change_sized (C := Try.checked) own started (by kernel_rfl) Try.func4
    (ChangeSpec.witness6 (enc := enc) (C := Try.checked) false ⟨#[], #[.slice none 0 0], []⟩ 8 (by kernel_rfl) (by kernel_rfl) (by kernel_rfl) (by kernel_rfl)) ?_
  intro W base args ds gs before hval0 hW hcnd hsz0 _
  have hval : ∀ (j : Nat) t v, Try.f4.params[j]? = some t → args[j]? = some v → Value.okWide Try.prog W .any base t v := hval0
  have hW' := hW
  obtain ⟨p, q, hA0, hV, rfl, hfz, hnd⟩ := hW
  have hA : DataW.TrodAll enc Try.prog W 0 (fun _ => true) true Try.f4.params.toList args.toList ds p := hA0
  rw [Try.params4] at hA hval
  obtain ⟨v0, vs0, d0, ds0, p0, q0, hargs, rfl, rfl, h0, r0⟩ := trodAll_cons hA
  obtain ⟨rfl, rfl, rfl⟩ := trodAll_nil r0
  obtain rfl : args = #[v0] := by cases args; simp_all
  obtain ⟨rfl, rfl⟩ := trodVars_none hV
  obtain ⟨a0, len0, cap0, rfl⟩ := okWide_slice Try.underlying23 (hval 0 23 v0 rfl rfl)
  have k0 := h0
  have lt0 : ∀ x ∈ p0, x.block < W.heap.size := by obtain ⟨m, hm⟩ := k0; exact DataW.trod_lt m _ _ _ hm
  obtain ⟨fuel, hf⟩ := h0
  obtain ⟨A, c, l, hv, hcap, hC⟩ := strings_in hf
  injection hv with hv1 hv2 hv3
  subst hv1
  subst hv2
  subst hv3
  clear hA0 hval0 hsz0
  obtain ⟨k, hk⟩ := Pure.FeatureFormats l hC.2.1
  refine (Q.corporalaw05_FeatureFormats.calls k a0 cap0 l true W hC hcap hk).mono fun e W' ⟨he, bel⟩ => ?_
  subst he
  exact ⟨_, rfl, _, _, _, [], _, [], hW', trodAll_mk1 (shut_bool Try.underlying4 _), (trodAll_cons_mk (Below.trod laidOut (by kernel_rfl) (of_decide_eq_true (by kernel_rfl)) k0 bel lt0) trodAll_mk0), rfl, bel.frame _, fun h => by cases h⟩
theorem over : Rows.featureFormatsRow.holds Try.pinned (OpenSpec.ofChange Rows.featureFormatsSpec) :=
  OpenClaim.holds_of_wide 4 Try.f4 rfl rfl rfl rfl rfl rfl rfl ⟨rfl, rfl, rfl, rfl, rfl⟩ rfl rfl rfl rfl rfl (by kernel_rfl) Try.func4 (by kernel_rfl)
    (of_decide_eq_true (by kernel_rfl)) (by unfold Func.isWrapper; first | (rw [if_pos (by decide +kernel)]; kernel_rfl) | (rw [if_neg (by decide +kernel)]; exact ⟨rfl, rfl⟩))
    (fun os started H enc _ => lifted os started H enc)
theorem proved : Rows.FeatureFormatsSaid := over
end Go.Proofs.Ytcgglamgemgeiaa.featureFormats
namespace Go.Proofs.Ytcgglamgemgeiaa
/-- The row, under a short name, for the claim. -/
theorem featureFormats_holds : Rows.FeatureFormatsSaid := featureFormats.proved
end Go.Proofs.Ytcgglamgemgeiaa
