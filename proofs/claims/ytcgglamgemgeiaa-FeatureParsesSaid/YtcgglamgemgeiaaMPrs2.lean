/- The law FeatureParses holds of every string: feature.Parse and the reference's Parse give the same features, or the same error; no condition. (Part 2.) -/
import Derived.Laws.Cover1
import Derived.Test.YtcgglamgemgeiaaMPrs1
import Derived.Lib.Bytealg
set_option linter.unusedVariables false
set_option linter.unusedSimpArgs false
set_option linter.unusedSectionVars false
/- FFeatureInsert -/
namespace Go.Proofs.Ytcgglamgemgeiaa.Q
open Go.RowKit Go.Proofs.YtcgglamgemgeiaaW.PrintWords Go.Proofs.YtcgglamgemgeiaaW.PrintLast Go.Proofs.YtcgglamgemgeiaaW.PrintMore
attribute [local go_sem] max2_int min2_int max_two min_two max_three min_three max_four min_four   -- for this text's walks alone
set_option linter.unusedVariables false
set_option linter.unusedSimpArgs false

/-! ### feature_insert: function 29 -/
mutual
def feature_insert.l0 : Nat → List ByteArray → ByteArray → Int → Option (List ByteArray)
  | 0, _, _, _ => none
  | k + 1, x0, x1, x5 => if x5 > 0 then (if 0 ≤ (wrap64 (x5 - 1)) then (if (wrap64 (x5 - 1)) < (x0.length : Int) then (feature_insert.j1 k x0 x1 x5 (!(Op.bytesLess ((rdOf ByteArray.empty x0 (wrap64 (x5 - 1))).toList) x1.toList))) else (none)) else (none)) else (feature_insert.j1 k x0 x1 x5 false)
def feature_insert.j1 : Nat → List ByteArray → ByteArray → Int → Bool → Option (List ByteArray)
  | 0, _, _, _, _ => none
  | k + 1, x0, x1, x5, x18 => if x18 = true then (feature_insert.l0 k x0 x1 (wrap64 (x5 - 1))) else (if x5 < (x0.length : Int) then (if 0 ≤ x5 then (feature_insert.j2 k x0 x1 x5 ((rdOf ByteArray.empty x0 x5).toList == x1.toList)) else (none)) else (feature_insert.j2 k x0 x1 x5 false))
def feature_insert.j2 : Nat → List ByteArray → ByteArray → Int → Bool → Option (List ByteArray)
  | 0, _, _, _, _ => none
  | k + 1, x0, x1, x5, x32 => if x32 = true then (some x0) else (if x0.length < 8796093022208 then ((some (x0 ++ [(⟨#[]⟩ : ByteArray)] : List ByteArray)).bind fun y119 => (if 0 ≤ (wrap64 (x5 + 1)) then (if (wrap64 (x5 + 1)) ≤ (y119.length : Int) then (if 0 ≤ x5 then (if x5 ≤ (y119.length : Int) then (if x5 < (y119.length : Int) then (some ((insLay y119 x5).set (x5 : Int).toNat x1)) else (none)) else (none)) else (none)) else (none)) else (none))) else (none))
end
def feature_insert.f (k : Nat) (l0 : List ByteArray) (a1 : ByteArray) : Option (List ByteArray) := feature_insert.l0 k l0 a1 (l0.length : Int)
theorem feature_insert.mono_l : ∀ k, (∀ y0 y1 y2, LeO (feature_insert.l0 k y0 y1 y2) (feature_insert.l0 (k + 1) y0 y1 y2)) ∧ (∀ y0 y1 y2 y3, LeO (feature_insert.j1 k y0 y1 y2 y3) (feature_insert.j1 (k + 1) y0 y1 y2 y3)) ∧ (∀ y0 y1 y2 y3, LeO (feature_insert.j2 k y0 y1 y2 y3) (feature_insert.j2 (k + 1) y0 y1 y2 y3))
  | 0 => ⟨fun _ _ _ r h => by simp [feature_insert.l0] at h, fun _ _ _ _ r h => by simp [feature_insert.j1] at h, fun _ _ _ _ r h => by simp [feature_insert.j2] at h⟩
  | k + 1 => by
    obtain ⟨ih0, ih1, ih2⟩ := feature_insert.mono_l k
    refine ⟨?_, ?_, ?_⟩
    · intro y0 y1 y2
      unfold feature_insert.l0
      repeat' first
      | (with_reducible exact ih0 _ _ _)
      | (with_reducible exact ih1 _ _ _ _)
      | (with_reducible exact ih2 _ _ _ _)
      | (with_reducible exact LeO.refl _)
      | (with_reducible exact LeO.none _)
      | (with_reducible refine LeO.ite ?_ ?_)
      | (with_reducible refine LeO.bind ?_ (fun _ => ?_))
      | exact ih0 _ _ _
      | exact ih1 _ _ _ _
      | exact ih2 _ _ _ _
      | exact LeO.none _
      | refine LeO.ite ?_ ?_
      | refine LeO.bind ?_ (fun _ => ?_)
    · intro y0 y1 y2 y3
      unfold feature_insert.j1
      repeat' first
      | (with_reducible exact ih0 _ _ _)
      | (with_reducible exact ih1 _ _ _ _)
      | (with_reducible exact ih2 _ _ _ _)
      | (with_reducible exact LeO.refl _)
      | (with_reducible exact LeO.none _)
      | (with_reducible refine LeO.ite ?_ ?_)
      | (with_reducible refine LeO.bind ?_ (fun _ => ?_))
      | exact ih0 _ _ _
      | exact ih1 _ _ _ _
      | exact ih2 _ _ _ _
      | exact LeO.none _
      | refine LeO.ite ?_ ?_
      | refine LeO.bind ?_ (fun _ => ?_)
    · intro y0 y1 y2 y3
      unfold feature_insert.j2
      repeat' first
      | (with_reducible exact ih0 _ _ _)
      | (with_reducible exact ih1 _ _ _ _)
      | (with_reducible exact ih2 _ _ _ _)
      | (with_reducible exact LeO.refl _)
      | (with_reducible exact LeO.none _)
      | (with_reducible refine LeO.ite ?_ ?_)
      | (with_reducible refine LeO.bind ?_ (fun _ => ?_))
      | exact ih0 _ _ _
      | exact ih1 _ _ _ _
      | exact ih2 _ _ _ _
      | exact LeO.none _
      | refine LeO.ite ?_ ?_
      | refine LeO.bind ?_ (fun _ => ?_)
theorem feature_insert.mono : ∀ a0 a1 k, LeO (feature_insert.f k a0 a1) (feature_insert.f (k + 1) a0 a1) := by
  intro a0 a1 k
  obtain ⟨ih0, ih1, ih2⟩ := feature_insert.mono_l k
  unfold feature_insert.f
  repeat' first
      | (with_reducible exact ih0 _ _ _)
      | (with_reducible exact ih1 _ _ _ _)
      | (with_reducible exact ih2 _ _ _ _)
      | (with_reducible exact LeO.refl _)
      | (with_reducible exact LeO.none _)
      | (with_reducible refine LeO.ite ?_ ?_)
      | (with_reducible refine LeO.bind ?_ (fun _ => ?_))
      | exact ih0 _ _ _
      | exact ih1 _ _ _ _
      | exact ih2 _ _ _ _
      | exact LeO.none _
      | refine LeO.ite ?_ ?_
      | refine LeO.bind ?_ (fun _ => ?_)
set_option maxHeartbeats 8000000 in
set_option maxRecDepth 100000 in
theorem feature_insert.calls (k : Nat) (P0_ : Nat → Prop) (u9000_ : Value) (l0 : List ByteArray) (a1 : ByteArray) (r : List ByteArray) (w0 w : World) (hB : Below w0.heap.size w0 w) (ho0 : Kd.R Kd.string 9 w w0.heap.size P0_ u9000_ l0) (h : feature_insert.f k l0 a1 = some r) :
    Calls Try.prog 29 #[u9000_, .string a1] w fun e w' => ∃ v0_ : Value, e = .returned (v0_) ∧ Kd.R Kd.string 9 w' w0.heap.size (fun k_ => (P0_ k_ ∨ w.heap.size ≤ k_)) v0_ r ∧ Below w0.heap.size w0 w' ∧ Kept w w' (fun k_ => P0_ k_) := by
  have HO0 := Aside0.mk (show Kd.R Kd.string 9 w w0.heap.size (fun k_ => (P0_ k_ ∨ w.heap.size ≤ k_)) u9000_ l0 from Kd.R_mono ho0 (fun k_ hk => (.inl hk)))
  have HK := Aside0.mk (Kept.refl w (fun k_ => P0_ k_))
  have HW0 := Aside0.mk hB.size
  have HB := Aside0.mk hB
  clear hB
  have H : (feature_insert.l0 k l0 a1 (l0.length : Int)) = some r := h
  clear h
  have H' := Aside0.mk H
  clear H
  obtain ⟨Ao3, co3, eo3⟩ := Kd.R_slice HO0.out
  subst eo3
  go_enter Try.func29, Try.ntmps29
  go_wp2
  repeat (go_quiet (fail); try go_wp2)
  go_loopg [5] k (fun kq v5 w' => ∃ (x5_1 : Int), v5 = .int .i64 x5_1 ∧ Aside0 (feature_insert.l0 kq l0 a1 x5_1 = some r) ∧ Aside0 (kq ≤ k) ∧ Aside0 (Kd.R Kd.string 9 w' w0.heap.size (fun k_ => (P0_ k_ ∨ w.heap.size ≤ k_)) (.slice Ao3 l0.length co3) l0) ∧ Aside0 (Kept w w' (fun k_ => P0_ k_)) ∧ Aside0 (Below w0.heap.size w0 w'))
  case atStart => exact ⟨((l0.length : Int)), (by first | rfl | (simp; done) | (simp [*]; done)), H', ⟨Nat.le_refl _⟩, ⟨by (with_reducible repeat (first | apply Kd.R_alloc | apply Kd.R_drewN | apply Kd.R_drew)); exact HO0.out⟩, ⟨by repeat (first | (with_reducible first | exact HK.out | apply Kept.alloc | apply Kept.drewN | apply Kept.drew) | exact HK.out)⟩, ⟨by repeat (first | (with_reducible first | exact HB.out | apply below_alloc | apply pw_below_drewN | apply below_drew1) | exact HB.out)⟩⟩
  case round =>
    clear H'
    try clear c2
    try clear p2
    obtain ⟨x5_1, rfl, HA, HK1, HO_0, HK, HB⟩ := hrel
    cases gk with
    | zero => exact absurd HA.out (by simp [feature_insert.l0])
    | succ k1 =>
      have H := HA.out
      clear HA
      simp only [feature_insert.l0] at H
      have HC4 := Aside0.mk H
      clear H
      go_upto_region 2 with (fail)
      repeat (go_quiet (fail); go_upto_region 2 with (fail))
      go_cut [18] (fun v18 wc => ∃ (kq : Nat) (x18_3 : Bool), v18 = .bool x18_3 ∧ Aside0 (feature_insert.j1 kq l0 a1 x5_1 x18_3 = some r) ∧ Aside0 (kq ≤ k1) ∧ Aside0 (Kd.R Kd.string 9 wc w0.heap.size (fun k_ => (P0_ k_ ∨ w.heap.size ≤ k_)) (.slice Ao3 l0.length co3) l0) ∧ Aside0 (Kept w wc (fun k_ => P0_ k_)) ∧ Aside0 (Below w0.heap.size w0 wc))
      case first =>
        have H := HC4.out
        clear HC4
        by_cases c5 : x5_1 > 0
        · rw [if_pos c5] at H
          have c5b0 : decide (0 < x5_1) = true := decide_eq_true c5
          clear c5
          (first | rw [c5b0] | (simp only [i64_w, i32_w]; rw [c5b0]) | skip)
          obtain ⟨ji6, hji6⟩ : ∃ j_ : Int, (wrap64 (x5_1 - 1)) = j_ := ⟨_, rfl⟩
          replace H : (if 0 ≤ (ji6) then (if (ji6) < (l0.length : Int) then (feature_insert.j1 k1 l0 a1 x5_1 (!(Op.bytesLess ((rdOf ByteArray.empty l0 (ji6)).toList) a1.toList))) else (none)) else (none)) = some r := by first | (rw [hji6] at H; exact H) | (simp only [hji6] at H ⊢; exact H)
          have hji6w : (IntKind.i64.wrap (x5_1 - 1)) = ji6 := (i64_w _).trans hji6
          by_cases c7 : 0 ≤ (ji6)
          · rw [if_pos c7] at H
            have c7b0 : decide (0 ≤ (ji6)) = true := decide_eq_true c7
            clear c7
            by_cases c8 : (ji6) < (l0.length : Int)
            · rw [if_pos c8] at H
              have c8b0 : decide ((ji6) < (l0.length : Int)) = true := decide_eq_true c8
              clear c8
              have H' := Aside0.mk H
              clear H
              have p117 : 0 ≤ ((ji6) : Int) := of_decide_eq_true (by first | (with_reducible assumption) | assumption)
              have q117 : (ji6) < (l0.length : Int) := of_decide_eq_true (by first | (with_reducible assumption) | assumption)
              obtain ⟨ad117, e117, hx117_0⟩ := Kd.at_string (Kd.R_reads' HO_0.out).2.2 (ji6) p117 q117
              cases e117
              replace p117 := eq_true p117
              replace q117 := eq_true q117
              go_wp2
              repeat (go_quiet (fail); try go_wp2)
              go_meet
              case rel => exact ⟨_, (!(Op.bytesLess ((rdOf ByteArray.empty l0 (ji6)).toList) a1.toList)), (by first | rfl | exact congrArg Value.bool (leq_bytes _ _) | (simp only [← hji6]; exact congrArg Value.bool (leq_bytes _ _))), H', ⟨by have := HK1.out; first | omega | exact Nat.le_refl _⟩, ⟨by (with_reducible repeat (first | apply Kd.R_alloc | apply Kd.R_drewN | apply Kd.R_drew)); exact HO_0.out⟩, ⟨by repeat (first | (with_reducible first | exact HK.out | apply Kept.alloc | apply Kept.drewN | apply Kept.drew) | exact HK.out)⟩, ⟨by repeat (first | (with_reducible first | exact HB.out | apply below_alloc | apply pw_below_drewN | apply below_drew1) | exact HB.out)⟩⟩
            · rw [if_neg c8] at H
              exact absurd H (by simp)
          · rw [if_neg c7] at H
            exact absurd H (by simp)
        · rw [if_neg c5] at H
          have c5b0 : decide (0 < x5_1) = false := decide_eq_false c5
          clear c5
          (first | rw [c5b0] | (simp only [i64_w, i32_w]; rw [c5b0]) | skip)
          have H' := Aside0.mk H
          clear H
          go_wp2
          repeat (go_quiet (fail); try go_wp2)
          go_meet
          case rel => exact ⟨_, (false), (by first | rfl | (simp; done) | (simp [*]; done)), H', ⟨by have := HK1.out; first | omega | exact Nat.le_refl _⟩, ⟨by (with_reducible repeat (first | apply Kd.R_alloc | apply Kd.R_drewN | apply Kd.R_drew)); exact HO_0.out⟩, ⟨by repeat (first | (with_reducible first | exact HK.out | apply Kept.alloc | apply Kept.drewN | apply Kept.drew) | exact HK.out)⟩, ⟨by repeat (first | (with_reducible first | exact HB.out | apply below_alloc | apply pw_below_drewN | apply below_drew1) | exact HB.out)⟩⟩
      case rest =>
        clear HC4
        try clear p1
        try clear q1
        try clear hx1
        try clear c2
        try clear p2
        try clear c5
        try clear c5b0
        try clear p6
        try clear c7
        try clear c7b0
        try clear c8
        try clear c8b0
        try clear hx117_0
        try clear p117
        try clear p2
        try clear q117
        obtain ⟨kq, x18_3, rfl, HA, HJ3, HO_0, HK, HB⟩ := hcut
        cases kq with
        | zero => exact absurd HA.out (by simp [feature_insert.j1])
        | succ kj3 =>
          have H := HA.out
          clear HA
          simp only [feature_insert.j1] at H
          by_cases c9 : x18_3 = true
          · subst c9
            have H1 : (feature_insert.l0 kj3 l0 a1 (wrap64 (x5_1 - 1))) = some r := by rw [if_pos rfl] at H; exact H
            clear H
            have H := H1
            clear H1
            have H' := Aside0.mk H
            clear H
            go_wp2
            repeat (go_quiet (fail); try go_wp2)
            go_roundg kj3
            case measure => have := HK1.out; have := HJ3.out; omega
            case rel => exact ⟨(wrap64 (x5_1 - 1)), (by first | rfl | (simp; done) | (simp [*]; done)), H', ⟨by have := HK1.out; have := HJ3.out; omega⟩, ⟨by (with_reducible repeat (first | apply Kd.R_alloc | apply Kd.R_drewN | apply Kd.R_drew)); exact HO_0.out⟩, ⟨by repeat (first | (with_reducible first | exact HK.out | apply Kept.alloc | apply Kept.drewN | apply Kept.drew) | exact HK.out)⟩, ⟨by repeat (first | (with_reducible first | exact HB.out | apply below_alloc | apply pw_below_drewN | apply below_drew1) | exact HB.out)⟩⟩
          · replace c9 := Bool.eq_false_iff.mpr c9
            subst c9
            have H1 : (if x5_1 < (l0.length : Int) then (if 0 ≤ x5_1 then (feature_insert.j2 kj3 l0 a1 x5_1 ((rdOf ByteArray.empty l0 x5_1).toList == a1.toList)) else (none)) else (feature_insert.j2 kj3 l0 a1 x5_1 false)) = some r := by rw [if_neg (show ¬ (false = true) by decide)] at H; exact H
            clear H
            have H := H1
            clear H1
            have HC10 := Aside0.mk H
            clear H
            go_upto_region 4 with (fail)
            repeat (go_quiet (fail); go_upto_region 4 with (fail))
            go_cut [32] (fun v32 wc => ∃ (kq : Nat) (x32_9 : Bool), v32 = .bool x32_9 ∧ Aside0 (feature_insert.j2 kq l0 a1 x5_1 x32_9 = some r) ∧ Aside0 (kq ≤ kj3) ∧ Aside0 (Kd.R Kd.string 9 wc w0.heap.size (fun k_ => (P0_ k_ ∨ w.heap.size ≤ k_)) (.slice Ao3 l0.length co3) l0) ∧ Aside0 (Kept w wc (fun k_ => P0_ k_)) ∧ Aside0 (Below w0.heap.size w0 wc))
            case first =>
              have H := HC10.out
              clear HC10
              by_cases c11 : x5_1 < (l0.length : Int)
              · rw [if_pos c11] at H
                have c11b0 : decide (x5_1 < (l0.length : Int)) = true := decide_eq_true c11
                clear c11
                (first | rw [c11b0] | (simp only [i64_w, i32_w]; rw [c11b0]) | skip)
                by_cases c12 : 0 ≤ x5_1
                · rw [if_pos c12] at H
                  have c12b0 : decide (0 ≤ x5_1) = true := decide_eq_true c12
                  clear c12
                  have H' := Aside0.mk H
                  clear H
                  have p118 : 0 ≤ (x5_1 : Int) := of_decide_eq_true (by first | (with_reducible assumption) | assumption)
                  have q118 : x5_1 < (l0.length : Int) := of_decide_eq_true (by first | (with_reducible assumption) | assumption)
                  obtain ⟨ad118, e118, hx118_0⟩ := Kd.at_string (Kd.R_reads' HO_0.out).2.2 x5_1 p118 q118
                  cases e118
                  replace p118 := eq_true p118
                  replace q118 := eq_true q118
                  go_wp2
                  repeat (go_quiet (fail); try go_wp2)
                  go_meet
                  case rel => exact ⟨_, (((rdOf ByteArray.empty l0 x5_1).toList == a1.toList)), (by first | rfl | (simp; done) | (simp [*]; done)), H', ⟨by have := HK1.out; have := HJ3.out; first | omega | exact Nat.le_refl _⟩, ⟨by (with_reducible repeat (first | apply Kd.R_alloc | apply Kd.R_drewN | apply Kd.R_drew)); exact HO_0.out⟩, ⟨by repeat (first | (with_reducible first | exact HK.out | apply Kept.alloc | apply Kept.drewN | apply Kept.drew) | exact HK.out)⟩, ⟨by repeat (first | (with_reducible first | exact HB.out | apply below_alloc | apply pw_below_drewN | apply below_drew1) | exact HB.out)⟩⟩
                · rw [if_neg c12] at H
                  exact absurd H (by simp)
              · rw [if_neg c11] at H
                have c11b0 : decide (x5_1 < (l0.length : Int)) = false := decide_eq_false c11
                clear c11
                (first | rw [c11b0] | (simp only [i64_w, i32_w]; rw [c11b0]) | skip)
                have H' := Aside0.mk H
                clear H
                go_wp2
                repeat (go_quiet (fail); try go_wp2)
                go_meet
                case rel => exact ⟨_, (false), (by first | rfl | (simp; done) | (simp [*]; done)), H', ⟨by have := HK1.out; have := HJ3.out; first | omega | exact Nat.le_refl _⟩, ⟨by (with_reducible repeat (first | apply Kd.R_alloc | apply Kd.R_drewN | apply Kd.R_drew)); exact HO_0.out⟩, ⟨by repeat (first | (with_reducible first | exact HK.out | apply Kept.alloc | apply Kept.drewN | apply Kept.drew) | exact HK.out)⟩, ⟨by repeat (first | (with_reducible first | exact HB.out | apply below_alloc | apply pw_below_drewN | apply below_drew1) | exact HB.out)⟩⟩
            case rest =>
              clear HC10
              try clear c1
              try clear p1
              try clear q1
              try clear hx1
              try clear c2
              try clear p2
              try clear c5
              try clear c5b0
              try clear p6
              try clear c7
              try clear c7b0
              try clear c8
              try clear c8b0
              try clear c9
              try clear c11
              try clear c11b0
              try clear p11
              try clear q11
              try clear hx11
              try clear c12
              try clear c12b0
              try clear hx117_0
              try clear hx118_0
              try clear p1
              try clear p117
              try clear p118
              try clear p2
              try clear p6
              try clear q1
              try clear q117
              try clear q118
              obtain ⟨kq, x32_9, rfl, HA, HJ9, HO_0, HK, HB⟩ := hcut
              cases kq with
              | zero => exact absurd HA.out (by simp [feature_insert.j2])
              | succ kj9 =>
                have H := HA.out
                clear HA
                simp only [feature_insert.j2] at H
                by_cases c13 : x32_9 = true
                · subst c13
                  have H1 : (some l0) = some r := by rw [if_pos rfl] at H; exact H
                  clear H
                  have H := H1
                  clear H1
                  obtain rfl := Option.some.inj H
                  go_wp2
                  repeat (go_quiet (fail); try go_wp2)
                  go_ret
                  exact ⟨_, by first | rfl | (simp [errW_none, errW_some] <;> rfl) | (simp [*, errW_none, errW_some] <;> rfl), by (with_reducible repeat (first | apply Kd.R_alloc | apply Kd.R_drewN | apply Kd.R_drew)); exact HO_0.out, by repeat (first | (with_reducible first | exact HB.out | apply below_alloc | apply pw_below_drewN | apply below_drew1) | exact HB.out), by repeat (first | (with_reducible first | exact HK.out | apply Kept.alloc | apply Kept.drewN | apply Kept.drew) | exact HK.out)⟩
                · replace c13 := Bool.eq_false_iff.mpr c13
                  subst c13
                  have H1 : (if l0.length < 8796093022208 then ((some (l0 ++ [(⟨#[]⟩ : ByteArray)] : List ByteArray)).bind fun y119 => (if 0 ≤ (wrap64 (x5_1 + 1)) then (if (wrap64 (x5_1 + 1)) ≤ (y119.length : Int) then (if 0 ≤ x5_1 then (if x5_1 ≤ (y119.length : Int) then (if x5_1 < (y119.length : Int) then (some ((insLay y119 x5_1).set (x5_1 : Int).toNat a1)) else (none)) else (none)) else (none)) else (none)) else (none))) else (none)) = some r := by rw [if_neg (show ¬ (false = true) by decide)] at H; exact H
                  clear H
                  have H := H1
                  clear H1
                  by_cases c14 : l0.length < 8796093022208
                  · rw [if_pos c14] at H
                    have LMc14 := Aside0.mk c14
                    clear c14
                    obtain ⟨y119, hy119⟩ : ∃ y_ : List ByteArray, y_ = (l0 ++ [(⟨#[]⟩ : ByteArray)]) := ⟨_, rfl⟩
                    replace H : (if 0 ≤ (wrap64 (x5_1 + 1)) then (if (wrap64 (x5_1 + 1)) ≤ (y119.length : Int) then (if 0 ≤ x5_1 then (if x5_1 ≤ (y119.length : Int) then (if x5_1 < (y119.length : Int) then (some ((insLay y119 x5_1).set (x5_1 : Int).toNat a1)) else (none)) else (none)) else (none)) else (none)) else (none)) = some r := by first | (rw [hy119]; with_reducible exact H) | (have H2_ := (Option.bind_some _ _).symm.trans H; rw [hy119]; with_reducible exact H2_) | (have H2_ := (Option.bind_some _ _).symm.trans H; with_reducible exact H2_) | with_reducible exact H | (rw [hy119]; exact H) | exact H
                    have Ny119 := Aside0.mk hy119
                    clear hy119
                    obtain ⟨ji15, hji15⟩ : ∃ j_ : Int, (wrap64 (x5_1 + 1)) = j_ := ⟨_, rfl⟩
                    replace H : (if 0 ≤ (ji15) then (if (ji15) ≤ (y119.length : Int) then (if 0 ≤ x5_1 then (if x5_1 ≤ (y119.length : Int) then (if x5_1 < (y119.length : Int) then (some ((insLay y119 x5_1).set (x5_1 : Int).toNat a1)) else (none)) else (none)) else (none)) else (none)) else (none)) = some r := by first | (rw [hji15] at H; exact H) | (simp only [hji15] at H ⊢; exact H)
                    have hji15w : (IntKind.i64.wrap (x5_1 + 1)) = ji15 := (i64_w _).trans hji15
                    by_cases c16 : 0 ≤ (ji15)
                    · rw [if_pos c16] at H
                      have c16b0 := eq_true c16
                      have c16b1 : decide (0 ≤ (ji15)) = true := decide_eq_true c16
                      clear c16
                      by_cases c17 : (ji15) ≤ (y119.length : Int)
                      · rw [if_pos c17] at H
                        have c17b0 := eq_true c17
                        have c17b1 : decide ((ji15) ≤ (y119.length : Int)) = true := decide_eq_true c17
                        clear c17
                        obtain ⟨y122, hy122⟩ : ∃ y_ : List ByteArray, y_ = (y119.drop ((ji15) : Int).toNat) := ⟨_, rfl⟩
                        replace H : (if 0 ≤ x5_1 then (if x5_1 ≤ (y119.length : Int) then (if x5_1 < (y119.length : Int) then (some ((insLay y119 x5_1).set (x5_1 : Int).toNat a1)) else (none)) else (none)) else (none)) = some r := by first | (rw [hy122]; with_reducible exact H) | (have H2_ := (Option.bind_some _ _).symm.trans H; rw [hy122]; with_reducible exact H2_) | (have H2_ := (Option.bind_some _ _).symm.trans H; with_reducible exact H2_) | with_reducible exact H | (rw [hy122]; exact H) | exact H
                        have Ny122 := Aside0.mk hy122
                        clear hy122
                        by_cases c18 : 0 ≤ x5_1
                        · rw [if_pos c18] at H
                          have c18b0 := eq_true c18
                          have c18b1 : decide (0 ≤ x5_1) = true := decide_eq_true c18
                          clear c18
                          by_cases c19 : x5_1 ≤ (y119.length : Int)
                          · rw [if_pos c19] at H
                            have c19b0 := eq_true c19
                            have c19b1 : decide (x5_1 ≤ (y119.length : Int)) = true := decide_eq_true c19
                            clear c19
                            obtain ⟨y126, hy126⟩ : ∃ y_ : List ByteArray, y_ = (y119.drop (x5_1 : Int).toNat) := ⟨_, rfl⟩
                            replace H : (if x5_1 < (y119.length : Int) then (some ((insLay y119 x5_1).set (x5_1 : Int).toNat a1)) else (none)) = some r := by first | (rw [hy126]; with_reducible exact H) | (have H2_ := (Option.bind_some _ _).symm.trans H; rw [hy126]; with_reducible exact H2_) | (have H2_ := (Option.bind_some _ _).symm.trans H; with_reducible exact H2_) | with_reducible exact H | (rw [hy126]; exact H) | exact H
                            have Ny126 := Aside0.mk hy126
                            clear hy126
                            by_cases c20 : x5_1 < (y119.length : Int)
                            · rw [if_pos c20] at H
                              have c20b0 : decide (x5_1 < (y119.length : Int)) = true := decide_eq_true c20
                              clear c20
                              obtain ⟨y130, hy130⟩ : ∃ y_ : List ByteArray, y_ = ((insLay y119 x5_1).set (x5_1 : Int).toNat a1) := ⟨_, rfl⟩
                              replace H : (some y130) = some r := by first | (rw [hy130]; with_reducible exact H) | (have H2_ := (Option.bind_some _ _).symm.trans H; rw [hy130]; with_reducible exact H2_) | (have H2_ := (Option.bind_some _ _).symm.trans H; with_reducible exact H2_) | with_reducible exact H | (rw [hy130]; exact H) | exact H
                              have Ny130 := Aside0.mk hy130
                              clear hy130
                              obtain rfl := Option.some.inj H
                              go_upto_region 7 with (first | ((with_reducible refine gate_builtin (b := .append) (xs := #[.tmp 34, .tmp 35]) rfl ?_); at_builtin; refine Kd.R_append Kd.string (w0 := w0) w0.heap.size rfl (.tmp 34) (.tmp 35) 23 9 (.string ⟨#[]⟩) 16 rfl Try.underlying23 info9 rfl (by decide) (by omega) (.slice Ao3 l0.length co3) l0 (⟨#[]⟩ : ByteArray) [.string (⟨#[]⟩ : ByteArray)] (fun k_ => (P0_ k_ ∨ w.heap.size ≤ k_)) (fun _ => False) rfl rfl ?aP (fun _ hk => hk.elim) ?aF ?aO ?aB ?aS ?aL ?_; (case aP => exact rfl); (case aB => exact (by repeat (first | (with_reducible first | exact HB.out | apply below_alloc | apply pw_below_drewN | apply below_drew1) | exact HB.out))); (case aF => exact (fun k_ hk => (.inr (Nat.le_trans (by first | exact HK.out.1 | exact (show Kept w _ (fun k_ => P0_ k_) from by repeat (first | (with_reducible first | exact HK.out | apply Kept.alloc | apply Kept.drewN | apply Kept.drew) | exact HK.out)).1) hk)))); (case aO => exact (by (with_reducible repeat (first | apply Kd.R_alloc | apply Kd.R_drewN | apply Kd.R_drew)); exact HO_0.out)); (case aS => exact (below_size (by repeat (first | (with_reducible first | exact HB.out | apply below_alloc | apply pw_below_drewN | apply below_drew1) | exact HB.out)))); (case aL => have := LMc14.out; omega); intro v120 w22 ho hb hg hat; rw [← Ny119.out] at ho; have n0_ := Aside0.mk (hb); have n1_ := Aside0.mk (Kept.of_grown (S := (fun k_ => P0_ k_)) hg (by repeat (first | (with_reducible first | exact HK.out | apply Kept.alloc | apply Kept.drewN | apply Kept.drew) | exact HK.out)) (fun k_ e_ => (HO_0.out.1 k_ e_))); have n2_ := Aside0.mk (ho); clear HB; clear HK; clear HO_0; have HB := n0_; have HK := n1_; have HO121 := n2_; clear n0_ n1_ n2_; clear ho hb hg hat; obtain ⟨Ao24, co24, eo24⟩ := Kd.R_slice HO121.out; subst eo24; have q23 : ((ji15) : Int) ≤ ((y119.length : Int) : Int) := of_decide_eq_true (by first | (with_reducible assumption) | assumption); obtain ⟨i023, hi023, _, hsz23, _⟩ := info_parts info9; have hroom23 : y119.length ≤ co24 := (Kd.R_reads' HO121.out).2.1; have hC23 : Kd.C Kd.string _ Ao24 y119.length y119 := (Kd.R_reads' HO121.out).2.2; have q023 : (0 : Int) ≤ ((ji15) : Int) := of_decide_eq_true (by first | (with_reducible assumption) | assumption); have hcut23 := cut_from (P := Try.prog) 23 9 .i64 Try.underlying23 hi023 1 hsz23 Ao24 y119.length co24 (ji15) q023 q23; have hr23 := Kd.C_drop (m := ((ji15) : Int).toNat) (c := co24) hC23 (by omega) hroom23; obtain ⟨A23, hA23⟩ : ∃ A1, A1 = (if co24 = ((ji15) : Int).toNat then Ao24 else (Ao24 : Option Addr).map (·.add (((ji15) : Int).toNat * 1))) := ⟨_, rfl⟩; obtain ⟨c23, hc23⟩ : ∃ c1, c1 = co24 - ((ji15) : Int).toNat := ⟨_, rfl⟩; have hy23 : y122.length = y119.length - ((ji15) : Int).toNat := (by rw [Ny122.out, List.length_drop] <;> omega); rw [show (y119).drop ((ji15) : Int).toNat = y122 from Ny122.out.symm] at hr23; replace hr23 : Kd.C Kd.string _ A23 y122.length y122 := (by rw [hA23]; exact hr23); rw [← hy23, ← hA23, ← hc23] at hcut23; have HR125 := Aside0.mk hr23; have HC125 := Aside0.mk (show y122.length ≤ c23 from by rw [hy23, hc23]; exact Nat.sub_le_sub_right hroom23 _); clear hr23 hC23 hroom23 hi023 hsz23 hc23; have KY23 := Aside0.mk hy23; have KA23 := Aside0.mk hA23; clear hy23 hA23; have KL23 := Aside0.mk (show ((ji15) : Int).toNat ≤ y119.length from by omega); replace q23 := eq_true q23; have q25 : (x5_1 : Int) ≤ ((y119.length : Int) : Int) := of_decide_eq_true (by first | (with_reducible assumption) | assumption); obtain ⟨i025, hi025, _, hsz25, _⟩ := info_parts info9; have hroom25 : y119.length ≤ co24 := (Kd.R_reads' HO121.out).2.1; have hC25 : Kd.C Kd.string _ Ao24 y119.length y119 := (Kd.R_reads' HO121.out).2.2; have q025 : (0 : Int) ≤ (x5_1 : Int) := of_decide_eq_true (by first | (with_reducible assumption) | assumption); have hcut25 := cut_from (P := Try.prog) 23 9 .i64 Try.underlying23 hi025 1 hsz25 Ao24 y119.length co24 x5_1 q025 q25; have hr25 := Kd.C_drop (m := (x5_1 : Int).toNat) (c := co24) hC25 (by omega) hroom25; obtain ⟨A25, hA25⟩ : ∃ A1, A1 = (if co24 = (x5_1 : Int).toNat then Ao24 else (Ao24 : Option Addr).map (·.add ((x5_1 : Int).toNat * 1))) := ⟨_, rfl⟩; obtain ⟨c25, hc25⟩ : ∃ c1, c1 = co24 - (x5_1 : Int).toNat := ⟨_, rfl⟩; have hy25 : y126.length = y119.length - (x5_1 : Int).toNat := (by rw [Ny126.out, List.length_drop] <;> omega); rw [show (y119).drop (x5_1 : Int).toNat = y126 from Ny126.out.symm] at hr25; replace hr25 : Kd.C Kd.string _ A25 y126.length y126 := (by rw [hA25]; exact hr25); rw [← hy25, ← hA25, ← hc25] at hcut25; have HR129 := Aside0.mk hr25; have HC129 := Aside0.mk (show y126.length ≤ c25 from by rw [hy25, hc25]; exact Nat.sub_le_sub_right hroom25 _); clear hr25 hC25 hroom25 hi025 hsz25 hc25; have KY25 := Aside0.mk hy25; have KA25 := Aside0.mk hA25; clear hy25 hA25; have KL25 := Aside0.mk (show (x5_1 : Int).toNat ≤ y119.length from by omega); replace q25 := eq_true q25))
                              have gl_ := own_at HO121.out (by rw [Ny119.out, List.length_append]; simp)
                              obtain ⟨gg_, hgg_⟩ := gl_
                              subst hgg_
                              have n0_ := Aside0.mk (Kd.R_drew HO121.out)
                              have n1_ := Aside0.mk (below_drew1 HB.out)
                              have n2_ := Aside0.mk (show Kept w w22.drew (fun k_ => P0_ k_) from by repeat (first | (with_reducible first | exact HK.out | apply Kept.alloc | apply Kept.drewN | apply Kept.drew) | exact HK.out))
                              clear HO121 HB HK
                              have HO121 := n0_
                              have HB := n1_
                              have HK := n2_
                              clear n0_ n1_ n2_
                              refine start_ (n := 8) (S := fun w' => True) (ds := []) #[false, false, false, false, false, false, false, false] (by kernel_rfl) rfl rfl trivial (fun hHeld => ?_); refine with_tab (T := rtab .any (opsOf Try.f29 7)) rfl (fun HT_ => ?_)
                              generalize w22.drew = w41 at HO121 HB HK hHeld ⊢
                              refine pw_ 0 37 HT_.out (h := ?_)
                              refine pw_ 1 38 HT_.out (h := ?_)
                              refine pw_ 2 39 HT_.out (h := ?_)
                              refine pw_ 3 40 HT_.out (h := ?_)
                              refine pw_ 4 41 HT_.out (h := ?_)
                              refine pw_ 5 42 HT_.out (h := ?_)
                              refine pw_ 6 43 HT_.out (h := ?_)
                              refine one_ (i := 7) (N := some 44) #[true, true, true, true, true, true, true, true] rfl rfl (one_of HT_.out (by kernel_rfl)) (by decide) (fun K hK => ?_)
                              obtain ⟨d_, hd_⟩ : ∃ d_, d_ = x5_1.toNat := ⟨_, rfl⟩
                              have hx5_ : (x5_1 : Int) = (d_ : Int) := by have h_ : 0 ≤ x5_1 := of_decide_eq_true (by first | (with_reducible assumption) | assumption); omega
                              have hj_ : (ji15 : Int) = ((d_ + 1 : Nat) : Int) := (by have h3_ : x5_1 < (y119.length : Int) := of_decide_eq_true (by first | (with_reducible assumption) | assumption); have h4_ := LMc14.out; have h5_ : y119.length = l0.length + 1 := (by rw [Ny119.out, List.length_append]; rfl); rw [← hji15, hx5_]; unfold wrap64; omega)
                              have h3n_ : d_ < y119.length := (by have h3_ : x5_1 < (y119.length : Int) := of_decide_eq_true (by first | (with_reducible assumption) | assumption); omega)
                              have K1_ := KY23.out
                              have K2_ := KY25.out
                              have K3_ := KA23.out
                              have K4_ := KA25.out
                              have K5_ := (Kd.R_reads' HO121.out).2.1
                              rw [hj_] at K1_ K3_
                              rw [← hd_] at K2_ K4_
                              rw [Int.toNat_natCast] at K1_ K3_
                              refine copy_step rfl (.tmp 40) (.tmp 43) 23 rfl Try.underlying23 (by kernel_rfl) HO121.out d_ (d_ + 1) A23 A25 y122.length c23 y126.length c25 rfl rfl ((y119.drop d_).take y122.length) rfl ?hn ?hfit ?hpos ?_
                              case hn => rw [List.length_take, List.length_drop, K2_]; exact Nat.min_comm _ _
                              case hfit => rw [List.length_take, List.length_drop]; omega
                              case hpos => intro hp_; rw [List.length_take, List.length_drop] at hp_; rw [K3_, K4_, if_neg (by omega), if_neg (by omega)]; simp [Addr.add]; omega
                              intro w42 hR hg
                              have n0_ := Aside0.mk (HB.out.grown hg (below_size HB.out) (fun k_ e_ => by injection e_ with e_; subst e_; exact Kd.R_base hR gg_ (by simp [Value.ownBlock])))
                              have n1_ := Aside0.mk (Kept.of_grown (S := (fun k_ => P0_ k_)) hg HK.out (fun k_ e_ => (HO121.out.1 k_ e_)))
                              obtain ⟨y2_, hy2_⟩ : ∃ y_, y_ = insLay y119 x5_1 := ⟨_, rfl⟩
                              have hl2_ : y2_.length = y119.length := by rw [hy2_]; exact lay_length _ _ _
                              have hR2_ : Kd.R Kd.string 9 w42 w0.heap.size (fun k_ => (P0_ k_ ∨ w.heap.size ≤ k_)) (.slice (some ⟨gg_, 0, none⟩) y119.length co24) y2_ := by rw [hy2_]; unfold insLay; rw [← hd_, ← K1_]; exact hR
                              clear HO121 HB HK
                              rw [← hl2_] at hR2_
                              have HO121 := Aside0.mk hR2_
                              have HB := n0_
                              have HK := n1_
                              clear n0_ n1_ hR hg hR2_
                              have Ny130_ := Ny130.out
                              rw [← hy2_] at Ny130_
                              clear Ny130
                              have Ny130 := Aside0.mk Ny130_
                              refine hK.out _ _ trivial (fun hHeld => ?_)
                              clear hK K
                              refine norm_ (a' := ?_) ?_ ?_
                              rotate_left
                              · show Act.put _ (some 44) _ = _
                                simp only [Act.put, List.setIfInBounds_toArray, List.set_cons_zero, List.set_cons_succ, i64_w, i32_w]
                                rfl
                              refine done_ (done_of HT_.out (by kernel_rfl)) ?_
                              rw [← hl2_]
                              have c21x_ : decide (x5_1 < (y2_.length : Int)) = true := (by rw [hl2_]; first | (with_reducible assumption) | assumption)
                              (try clear hx5_)
                              (try clear hj_)
                              (try clear K1_)
                              (try clear K2_)
                              (try clear K3_)
                              (try clear K4_)
                              (try clear K5_)
                              (try clear h3n_)
                              (try clear hd_)
                              (try clear hl2_)
                              (try clear hy2_)
                              (try clear Ny130_)
                              have p21 : 0 ≤ (x5_1 : Int) := of_decide_eq_true (by first | (with_reducible assumption) | assumption); have q21 : (x5_1 : Int) < ((y2_.length : Int) : Int) := of_decide_eq_true (by first | (with_reducible assumption) | assumption); obtain ⟨go21, co21, eo21, gb21, gl21, cl21, HG21⟩ := Kd.R_form HO121.out (by omega); (first | cases eo21 | (injection eo21 with ea_ en_ ec_; (first | subst ea_ | (injection ea_ with ea_; subst ea_)); subst ec_; clear en_)); have GB21 := Aside0.mk gb21; have GG21 := Aside0.mk HG21; clear gb21 gl21 HG21; have HMgg_ := Aside0.mk (show (P0_ gg_ ∨ w.heap.size ≤ gg_) from (HO121.out.1 _ rfl)); obtain ⟨hx21_0, hf21_0⟩ := Kd.R_celln (⟨#[]⟩ : ByteArray) HO121.out (x5_1 : Int) p21 q21; replace p21 := eq_true p21; replace q21 := eq_true q21; obtain ⟨hy26_, hz26_⟩ := Kd.R_celln (⟨#[]⟩ : ByteArray) HO121.out (x5_1 : Int) (of_decide_eq_true (by first | (with_reducible assumption) | assumption)) (of_decide_eq_true (by first | (with_reducible assumption) | assumption)); have HP26 := Kd.R_putg HO121.out (x5_1 : Int) a1
                              go_wp2_with (first | ((with_reducible refine gate_store (t := 9) (p := 48) rfl ?_); (try (rw [drewN_self w22]; generalize hq_ : World.drewN w22 _ = w22; have n0_ := Aside0.mk (Kd.R_at hq_ HO121.out); have n1_ := Aside0.mk (kept_at hq_ HK.out); have n2_ := Aside0.mk (below_at hq_ HB.out); clear hq_ HO121 HK HB; have HO121 := n0_; have HK := n1_; have HB := n2_; clear n0_ n1_ n2_; (try (obtain ⟨hy26_, hz26_⟩ := Kd.R_celln (⟨#[]⟩ : ByteArray) HO121.out (x5_1 : Int) (of_decide_eq_true (by first | (with_reducible assumption) | assumption)) (of_decide_eq_true (by first | (with_reducible assumption) | assumption)))); (try (have HP26 := Kd.R_putg HO121.out (x5_1 : Int) a1)))); refine store_event (t := 9) (p := 48) (v := ?vo_w27) (w1 := (w22.setCell ⟨gg_, (x5_1 : Int).toNat, none⟩ (.string a1))) ?hg ?ho ?hn ?hr ?_; (case ho => rfl); (case hg => rfl); (case hn => rfl); (case hr => first | (go_simp; done) | (go_simp; rfl)); intro w27 hw; have hg : w22.grownBy w27 (some gg_) := (by rw [hw]; exact HP26.2); have hp_ : Kd.R Kd.string 9 w27 w0.heap.size (fun k_ => (P0_ k_ ∨ w.heap.size ≤ k_)) (.slice (some ⟨gg_, 0, none⟩) y2_.length co24) y130 := (by rw [hw, Ny130.out]; exact HP26.1); clear HP26; have n0_ := Aside0.mk (hp_); have n1_ := Aside0.mk ((by rw [hw]; exact below_set (HB.out) GB21.out : Below w0.heap.size w0 w27)); have n2_ := Aside0.mk (Kept.of_grown (S := (fun k_ => P0_ k_)) hg (by repeat (first | (with_reducible first | exact HK.out | apply Kept.alloc | apply Kept.drewN | apply Kept.drew) | exact HK.out)) (fun k_ e_ => (HO121.out.1 k_ e_))); clear HO121; clear HB; clear HK; have HO121 := n0_; have HB := n1_; have HK := n2_; clear n0_ n1_ n2_; clear hg hw hp_))
                              go_ret
                              exact ⟨_, rfl, (by rw [Ny130.out]; exact HP26.1), below_set HB.out GB21.out, Kept.of_grown (S := (fun k_ => P0_ k_)) HP26.2 HK.out (fun k_ e_ => HO121.out.1 k_ e_)⟩
                            · rw [if_neg c20] at H
                              exact absurd H (by simp)
                          · rw [if_neg c19] at H
                            exact absurd H (by simp)
                        · rw [if_neg c18] at H
                          exact absurd H (by simp)
                      · rw [if_neg c17] at H
                        exact absurd H (by simp)
                    · rw [if_neg c16] at H
                      exact absurd H (by simp)
                  · rw [if_neg c14] at H
                    exact absurd H (by simp)

end Go.Proofs.Ytcgglamgemgeiaa.Q
/- FFeatureFormat -/
namespace Go.Proofs.Ytcgglamgemgeiaa.Q
open Go.RowKit Go.Proofs.YtcgglamgemgeiaaW.PrintWords Go.Proofs.YtcgglamgemgeiaaW.PrintLast Go.Proofs.YtcgglamgemgeiaaW.PrintMore
attribute [local go_sem] max2_int min2_int max_two min_two max_three min_three max_four min_four   -- for this text's walks alone
set_option linter.unusedVariables false
set_option linter.unusedSimpArgs false

/-! ### feature_Format: function 16 -/
mutual
def feature_Format.l0 : Nat → List ByteArray → List ByteArray → Int → Int → Option (ByteArray × Int)
  | 0, _, _, _, _ => none
  | k + 1, x4, x11, x12, x13 => if x13 < x12 then (if 0 ≤ x13 then (if x13 < (x11.length : Int) then ((markup_ValidValue.f (rdOf ByteArray.empty x11 x13)).bind fun t183 => (if t183 = 0 then (if (rdOf ByteArray.empty x11 x13).toList = ([] : List UInt8) then (some ((⟨#[]⟩ : ByteArray), 3)) else ((strings_Contains.f (rdOf ByteArray.empty x11 x13) (⟨#[124]⟩ : ByteArray)).bind fun t184 => (if t184 = true then (some ((⟨#[]⟩ : ByteArray), 3)) else ((feature_insert.f k x4 (rdOf ByteArray.empty x11 x13)).bind fun t185 => (feature_Format.l0 k t185 x11 x12 (wrap64 (x13 + 1))))))) else (some ((⟨#[]⟩ : ByteArray), t183)))) else (none)) else (none)) else (feature_Format.l1 k (⟨#[124]⟩ : ByteArray) x4 (x4.length : Int) 0)
def feature_Format.l1 : Nat → ByteArray → List ByteArray → Int → Int → Option (ByteArray × Int)
  | 0, _, _, _, _ => none
  | k + 1, x8, x32, x33, x34 => if x34 < x33 then (if 0 ≤ x34 then (if x34 < (x32.length : Int) then (if (rdOf ByteArray.empty x32 x34).size + 1 ≤ 9223372036854775807 then (if x8.size + ((rdOf ByteArray.empty x32 x34) ++ (⟨#[124]⟩ : ByteArray)).size ≤ 9223372036854775807 then (if ((x8 ++ ((rdOf ByteArray.empty x32 x34) ++ (⟨#[124]⟩ : ByteArray))).size : Int) > 120 then (some ((⟨#[]⟩ : ByteArray), 2)) else (feature_Format.l1 k (x8 ++ ((rdOf ByteArray.empty x32 x34) ++ (⟨#[124]⟩ : ByteArray))) x32 x33 (wrap64 (x34 + 1)))) else (none)) else (none)) else (none)) else (none)) else (some (x8, 0))
end
def feature_Format.f (k : Nat) (l0 : List ByteArray) : Option (ByteArray × Int) := feature_Format.l0 k ([] : List ByteArray) l0 (l0.length : Int) 0
theorem feature_Format.mono_l : ∀ k, (∀ y0 y1 y2 y3, LeO (feature_Format.l0 k y0 y1 y2 y3) (feature_Format.l0 (k + 1) y0 y1 y2 y3)) ∧ (∀ y0 y1 y2 y3, LeO (feature_Format.l1 k y0 y1 y2 y3) (feature_Format.l1 (k + 1) y0 y1 y2 y3))
  | 0 => ⟨fun _ _ _ _ r h => by simp [feature_Format.l0] at h, fun _ _ _ _ r h => by simp [feature_Format.l1] at h⟩
  | k + 1 => by
    obtain ⟨ih0, ih1⟩ := feature_Format.mono_l k
    refine ⟨?_, ?_⟩
    · intro y0 y1 y2 y3
      unfold feature_Format.l0
      repeat' first
      | (with_reducible exact ih0 _ _ _ _)
      | (with_reducible exact ih1 _ _ _ _)
      | (with_reducible exact feature_insert.mono _ _ _)
      | (with_reducible exact LeO.refl _)
      | (with_reducible exact LeO.none _)
      | (with_reducible refine LeO.ite ?_ ?_)
      | (with_reducible refine LeO.bind ?_ (fun _ => ?_))
      | exact ih0 _ _ _ _
      | exact ih1 _ _ _ _
      | exact feature_insert.mono _ _ _
      | exact LeO.none _
      | refine LeO.ite ?_ ?_
      | refine LeO.bind ?_ (fun _ => ?_)
    · intro y0 y1 y2 y3
      unfold feature_Format.l1
      repeat' first
      | (with_reducible exact ih0 _ _ _ _)
      | (with_reducible exact ih1 _ _ _ _)
      | (with_reducible exact feature_insert.mono _ _ _)
      | (with_reducible exact LeO.refl _)
      | (with_reducible exact LeO.none _)
      | (with_reducible refine LeO.ite ?_ ?_)
      | (with_reducible refine LeO.bind ?_ (fun _ => ?_))
      | exact ih0 _ _ _ _
      | exact ih1 _ _ _ _
      | exact feature_insert.mono _ _ _
      | exact LeO.none _
      | refine LeO.ite ?_ ?_
      | refine LeO.bind ?_ (fun _ => ?_)
theorem feature_Format.mono : ∀ a0 k, LeO (feature_Format.f k a0) (feature_Format.f (k + 1) a0) := by
  intro a0 k
  obtain ⟨ih0, ih1⟩ := feature_Format.mono_l k
  unfold feature_Format.f
  repeat' first
      | (with_reducible exact ih0 _ _ _ _)
      | (with_reducible exact ih1 _ _ _ _)
      | (with_reducible exact feature_insert.mono _ _ _)
      | (with_reducible exact LeO.refl _)
      | (with_reducible exact LeO.none _)
      | (with_reducible refine LeO.ite ?_ ?_)
      | (with_reducible refine LeO.bind ?_ (fun _ => ?_))
      | exact ih0 _ _ _ _
      | exact ih1 _ _ _ _
      | exact feature_insert.mono _ _ _
      | exact LeO.none _
      | refine LeO.ite ?_ ?_
      | refine LeO.bind ?_ (fun _ => ?_)
set_option maxHeartbeats 8000000 in
set_option maxRecDepth 100000 in
theorem feature_Format.calls (k : Nat) (A0 : Option Addr) (c0 : Nat) (l0 : List ByteArray) (r1 : ByteArray) (r2 : Int) (w : World) (hr0 : Kd.C Kd.string w A0 l0.length l0) (hc0 : l0.length ≤ c0) (h : feature_Format.f k l0 = some (r1, r2)) :
    Calls Try.prog 16 #[.slice A0 l0.length c0] w fun e w' => e = .returned (.tuple #[.string r1, .int .i64 r2]) ∧ Below w.heap.size w w' := by
  have HR0 := Aside0.mk hr0
  have HC0 := Aside0.mk hc0
  clear hr0 hc0
  have HB := Aside0.mk (Below.refl w.heap.size w)
  have H : (feature_Format.l0 k ([] : List ByteArray) l0 (l0.length : Int) 0) = some (r1, r2) := h
  clear h
  have H' := Aside0.mk H
  clear H
  go_enter Try.func16, Try.ntmps16
  go_wp2
  go_loopg [4, 13] k (fun kq v4 v13 w' => ∃ (x4_1 : List ByteArray) (x13_1 : Int), v13 = .int .i64 x13_1 ∧ Aside0 (feature_Format.l0 kq x4_1 l0 (l0.length : Int) x13_1 = some (r1, r2)) ∧ Aside0 (kq ≤ k) ∧ Aside0 (Kd.R Kd.string 9 w' w.heap.size (fun _ => True) v4 x4_1) ∧ Aside0 (Below w.heap.size w w'))
  case atStart => exact ⟨(([] : List ByteArray)), (0), (by first | rfl | (simp; done) | (simp [*]; done)), H', ⟨Nat.le_refl _⟩, ⟨by first | exact Kd.R_nil _ _ _ _ _ | exact Kd.N_nil _ _ _ _ _ | exact Kd.V_nil _ _ _ _ _ | exact Kd.Q_nil _ _ _ _ _ | exact Kd.S_nil _ _ _ _ _⟩, ⟨by repeat (first | (with_reducible first | exact HB.out | apply below_alloc | apply pw_below_drewN | apply below_drew1) | exact HB.out)⟩⟩
  case round =>
    clear H'
    try clear c1
    obtain ⟨x4_1, x13_1, rfl, HA, HK1, HO_4, HB⟩ := hrel
    cases gk with
    | zero => exact absurd HA.out (by simp [feature_Format.l0])
    | succ k1 =>
      have H := HA.out
      clear HA
      simp only [feature_Format.l0] at H
      by_cases c2 : x13_1 < (l0.length : Int)
      · rw [if_pos c2] at H
        have c2b0 : decide (x13_1 < (l0.length : Int)) = true := decide_eq_true c2
        clear c2
        by_cases c3 : 0 ≤ x13_1
        · rw [if_pos c3] at H
          have c3b0 : decide (0 ≤ x13_1) = true := decide_eq_true c3
          clear c3
          by_cases c4 : x13_1 < (l0.length : Int)
          · rw [if_pos c4] at H
            have c4b0 : decide (x13_1 < (l0.length : Int)) = true := decide_eq_true c4
            clear c4
            replace H := Option.bind_eq_some_iff.mp H
            obtain ⟨t183, A50, H⟩ := H
            replace H : (if t183 = 0 then (if (rdOf ByteArray.empty l0 x13_1).toList = ([] : List UInt8) then (some ((⟨#[]⟩ : ByteArray), 3)) else ((strings_Contains.f (rdOf ByteArray.empty l0 x13_1) (⟨#[124]⟩ : ByteArray)).bind fun t184 => (if t184 = true then (some ((⟨#[]⟩ : ByteArray), 3)) else ((feature_insert.f k1 x4_1 (rdOf ByteArray.empty l0 x13_1)).bind fun t185 => (feature_Format.l0 k1 t185 l0 (l0.length : Int) (wrap64 (x13_1 + 1))))))) else (some ((⟨#[]⟩ : ByteArray), t183))) = some (r1, r2) := H
            have A5 := Aside0.mk A50
            clear A50
            by_cases c6 : t183 = 0
            · rw [if_pos c6] at H
              have c6b0 : (t183 == 0) = true := beq_iff_eq.mpr c6
              have c6b1 : (t183 != 0) = false := bne_eq_false_iff_eq.mpr c6
              clear c6
              by_cases c7 : (rdOf ByteArray.empty l0 x13_1).toList = ([] : List UInt8)
              · rw [if_pos c7] at H
                have c7b0 : ((rdOf ByteArray.empty l0 x13_1).toList == ([] : List UInt8)) = true := beq_iff_eq.mpr c7
                have c7b1 : ((rdOf ByteArray.empty l0 x13_1).toList != ([] : List UInt8)) = false := bne_eq_false_iff_eq.mpr c7
                clear c7
                simp only [Option.some.injEq, Prod.mk.injEq] at H
                obtain ⟨rfl, rfl⟩ := H
                have p182 : 0 ≤ (x13_1 : Int) := of_decide_eq_true (by first | (with_reducible assumption) | assumption)
                have q182 : x13_1 < (l0.length : Int) := of_decide_eq_true (by first | (with_reducible assumption) | assumption)
                obtain ⟨ad182, e182, hx182_0⟩ := Kd.at_string HR0.out x13_1 p182 q182
                cases e182
                replace hx182_0 := (HB.out.cell (World.block_lt_of_cell? w _ hx182_0)).trans hx182_0
                replace p182 := eq_true p182
                replace q182 := eq_true q182
                go_wp2_with (first | ((with_reducible refine gate_callee (f := 26) rfl ?_); refine goesL_ (some 18) rfl rfl Try.func26 (by kernel_rfl) rfl #[.string (rdOf ByteArray.empty l0 x13_1)] rfl (by (try simp only [List.map_toArray, List.map_cons, List.map_nil]); first | done | rfl | (simp only [List.length_drop, List.length_take]; rfl)) ?_; (with_reducible refine (markup_ValidValue.calls (rdOf ByteArray.empty l0 x13_1) t183 _ A5.out).mono ?_); rintro e w8 ⟨rfl, hb⟩; refine ⟨_, rfl, ?_⟩; have n0_ := Aside0.mk (Kd.R_below (by (with_reducible repeat (first | apply Kd.R_alloc | apply Kd.R_drewN | apply Kd.R_drew)); exact HO_4.out) hb); have n1_ := Aside0.mk (below_step (by repeat (first | (with_reducible first | exact HB.out | apply below_alloc | apply pw_below_drewN | apply below_drew1) | exact HB.out)) hb); clear HO_4; clear HB; have HO_4 := n0_; have HB := n1_; clear n0_ n1_; (try clear hb); (try clear hb2); (try clear hk); (try clear hi)))
                go_ret2
                exact ⟨by first | rfl | (simp [errW_none, errW_some] <;> rfl) | (simp [*, errW_none, errW_some] <;> rfl), by repeat (first | (with_reducible first | exact HB.out | apply below_alloc | apply pw_below_drewN | apply below_drew1) | exact HB.out)⟩
              · rw [if_neg c7] at H
                have c7b0 : ((rdOf ByteArray.empty l0 x13_1).toList == ([] : List UInt8)) = false := beq_eq_false_iff_ne.mpr c7
                have c7b1 : ((rdOf ByteArray.empty l0 x13_1).toList != ([] : List UInt8)) = true := bne_iff_ne.mpr c7
                replace H := Option.bind_eq_some_iff.mp H
                obtain ⟨t184, A90, H⟩ := H
                replace H : (if t184 = true then (some ((⟨#[]⟩ : ByteArray), 3)) else ((feature_insert.f k1 x4_1 (rdOf ByteArray.empty l0 x13_1)).bind fun t185 => (feature_Format.l0 k1 t185 l0 (l0.length : Int) (wrap64 (x13_1 + 1))))) = some (r1, r2) := H
                have A9 := Aside0.mk A90
                clear A90
                by_cases c10 : t184 = true
                · subst c10
                  have H1 : (some ((⟨#[]⟩ : ByteArray), 3)) = some (r1, r2) := by rw [if_pos rfl] at H; exact H
                  clear H
                  have H := H1
                  clear H1
                  simp only [Option.some.injEq, Prod.mk.injEq] at H
                  obtain ⟨rfl, rfl⟩ := H
                  have p182 : 0 ≤ (x13_1 : Int) := of_decide_eq_true (by first | (with_reducible assumption) | assumption)
                  have q182 : x13_1 < (l0.length : Int) := of_decide_eq_true (by first | (with_reducible assumption) | assumption)
                  obtain ⟨ad182, e182, hx182_0⟩ := Kd.at_string HR0.out x13_1 p182 q182
                  cases e182
                  replace hx182_0 := (HB.out.cell (World.block_lt_of_cell? w _ hx182_0)).trans hx182_0
                  replace p182 := eq_true p182
                  replace q182 := eq_true q182
                  go_wp2_with (first | ((with_reducible refine gate_callee (f := 26) rfl ?_); refine goesL_ (some 18) rfl rfl Try.func26 (by kernel_rfl) rfl #[.string (rdOf ByteArray.empty l0 x13_1)] rfl (by (try simp only [List.map_toArray, List.map_cons, List.map_nil]); first | done | rfl | (simp only [List.length_drop, List.length_take]; rfl)) ?_; (with_reducible refine (markup_ValidValue.calls (rdOf ByteArray.empty l0 x13_1) t183 _ A5.out).mono ?_); rintro e w11 ⟨rfl, hb⟩; refine ⟨_, rfl, ?_⟩; have n0_ := Aside0.mk (Kd.R_below (by (with_reducible repeat (first | apply Kd.R_alloc | apply Kd.R_drewN | apply Kd.R_drew)); exact HO_4.out) hb); have n1_ := Aside0.mk (below_step (by repeat (first | (with_reducible first | exact HB.out | apply below_alloc | apply pw_below_drewN | apply below_drew1) | exact HB.out)) hb); clear HO_4; clear HB; have HO_4 := n0_; have HB := n1_; clear n0_ n1_; (try clear hb); (try clear hb2); (try clear hk); (try clear hi)) | (go_at_call 28; (with_reducible refine (strings_Contains.calls (rdOf ByteArray.empty l0 x13_1) (⟨#[124]⟩ : ByteArray) true _ A9.out).mono ?_); rintro e w' ⟨rfl, ⟨nd, rfl⟩⟩))
                  go_ret2
                  exact ⟨by first | rfl | (simp [errW_none, errW_some] <;> rfl) | (simp [*, errW_none, errW_some] <;> rfl), by repeat (first | (with_reducible first | exact HB.out | apply below_alloc | apply pw_below_drewN | apply below_drew1) | exact HB.out)⟩
                · replace c10 := Bool.eq_false_iff.mpr c10
                  subst c10
                  have H1 : ((feature_insert.f k1 x4_1 (rdOf ByteArray.empty l0 x13_1)).bind fun t185 => (feature_Format.l0 k1 t185 l0 (l0.length : Int) (wrap64 (x13_1 + 1)))) = some (r1, r2) := by rw [if_neg (show ¬ (false = true) by decide)] at H; exact H
                  clear H
                  have H := H1
                  clear H1
                  replace H := Option.bind_eq_some_iff.mp H
                  obtain ⟨t185, A120, H⟩ := H
                  replace H : (feature_Format.l0 k1 t185 l0 (l0.length : Int) (wrap64 (x13_1 + 1))) = some (r1, r2) := H
                  have A12 := Aside0.mk A120
                  clear A120
                  have H' := Aside0.mk H
                  clear H
                  have p182 : 0 ≤ (x13_1 : Int) := of_decide_eq_true (by first | (with_reducible assumption) | assumption)
                  have q182 : x13_1 < (l0.length : Int) := of_decide_eq_true (by first | (with_reducible assumption) | assumption)
                  obtain ⟨ad182, e182, hx182_0⟩ := Kd.at_string HR0.out x13_1 p182 q182
                  cases e182
                  replace hx182_0 := (HB.out.cell (World.block_lt_of_cell? w _ hx182_0)).trans hx182_0
                  replace p182 := eq_true p182
                  replace q182 := eq_true q182
                  go_wp2_with (first | ((with_reducible refine gate_callee (f := 26) rfl ?_); refine goesL_ (some 18) rfl rfl Try.func26 (by kernel_rfl) rfl #[.string (rdOf ByteArray.empty l0 x13_1)] rfl (by (try simp only [List.map_toArray, List.map_cons, List.map_nil]); first | done | rfl | (simp only [List.length_drop, List.length_take]; rfl)) ?_; (with_reducible refine (markup_ValidValue.calls (rdOf ByteArray.empty l0 x13_1) t183 _ A5.out).mono ?_); rintro e w13 ⟨rfl, hb⟩; refine ⟨_, rfl, ?_⟩; have n0_ := Aside0.mk (Kd.R_below (by (with_reducible repeat (first | apply Kd.R_alloc | apply Kd.R_drewN | apply Kd.R_drew)); exact HO_4.out) hb); have n1_ := Aside0.mk (below_step (by repeat (first | (with_reducible first | exact HB.out | apply below_alloc | apply pw_below_drewN | apply below_drew1) | exact HB.out)) hb); clear HO_4; clear HB; have HO_4 := n0_; have HB := n1_; clear n0_ n1_; (try clear hb); (try clear hb2); (try clear hk); (try clear hi)) | (go_at_call 28; (with_reducible refine (strings_Contains.calls (rdOf ByteArray.empty l0 x13_1) (⟨#[124]⟩ : ByteArray) false _ A9.out).mono ?_); rintro e w' ⟨rfl, ⟨nd, rfl⟩⟩; obtain ⟨Ao14, co14, eo14⟩ := Kd.R_slice HO_4.out; subst eo14) | ((with_reducible refine gate_callee (f := 29) rfl ?_); refine goesL_ (some 30) rfl rfl Try.func29 (by kernel_rfl) rfl #[.slice Ao14 x4_1.length co14, .string (rdOf ByteArray.empty l0 x13_1)] rfl (by (try simp only [List.map_toArray, List.map_cons, List.map_nil]); first | done | rfl | (simp only [List.length_drop, List.length_take]; rfl)) ?_; (with_reducible refine (feature_insert.calls k1 (fun k_ => some k_ = (.slice Ao14 x4_1.length co14 : Value).ownBlock) (.slice Ao14 x4_1.length co14) x4_1 (rdOf ByteArray.empty l0 x13_1) t185 w _ ?side1 ?side2 A12.out).mono ?_); (case side1 => repeat (first | (with_reducible first | exact HB.out | apply below_alloc | apply pw_below_drewN | apply below_drew1) | exact HB.out)); (case side2 => exact Kd.R_tight rfl HO_4.out); rintro e w15 ⟨v186, rfl, ho0, hb, hkp⟩; refine ⟨_, rfl, ?_⟩; have n0_ := Aside0.mk (Kd.R_mono (ok' := fun k_ => True) ho0 (fun k_ hk_ => trivial)); have n1_ := Aside0.mk (hb); clear HB; clear HO_4; have HO187 := n0_; have HB := n1_; clear n0_ n1_; (try clear hb); (try clear hkp); (try clear ho0)))
                  go_roundg k1
                  case measure => have := HK1.out; omega
                  case rel => exact ⟨(t185), (wrap64 (x13_1 + 1)), (by first | rfl | (simp; done) | (simp [*]; done)), H', ⟨by have := HK1.out; omega⟩, ⟨by (with_reducible repeat (first | apply Kd.R_alloc | apply Kd.R_drewN | apply Kd.R_drew)); exact HO187.out⟩, ⟨by repeat (first | (with_reducible first | exact HB.out | apply below_alloc | apply pw_below_drewN | apply below_drew1) | exact HB.out)⟩⟩
            · rw [if_neg c6] at H
              have c6b0 : (t183 == 0) = false := beq_eq_false_iff_ne.mpr c6
              have c6b1 : (t183 != 0) = true := bne_iff_ne.mpr c6
              simp only [Option.some.injEq, Prod.mk.injEq] at H
              obtain ⟨rfl, rfl⟩ := H
              have p182 : 0 ≤ (x13_1 : Int) := of_decide_eq_true (by first | (with_reducible assumption) | assumption)
              have q182 : x13_1 < (l0.length : Int) := of_decide_eq_true (by first | (with_reducible assumption) | assumption)
              obtain ⟨ad182, e182, hx182_0⟩ := Kd.at_string HR0.out x13_1 p182 q182
              cases e182
              replace hx182_0 := (HB.out.cell (World.block_lt_of_cell? w _ hx182_0)).trans hx182_0
              replace p182 := eq_true p182
              replace q182 := eq_true q182
              go_wp2_with (first | ((with_reducible refine gate_callee (f := 26) rfl ?_); refine goesL_ (some 18) rfl rfl Try.func26 (by kernel_rfl) rfl #[.string (rdOf ByteArray.empty l0 x13_1)] rfl (by (try simp only [List.map_toArray, List.map_cons, List.map_nil]); first | done | rfl | (simp only [List.length_drop, List.length_take]; rfl)) ?_; (with_reducible refine (markup_ValidValue.calls (rdOf ByteArray.empty l0 x13_1) t183 _ A5.out).mono ?_); rintro e w16 ⟨rfl, hb⟩; refine ⟨_, rfl, ?_⟩; have n0_ := Aside0.mk (Kd.R_below (by (with_reducible repeat (first | apply Kd.R_alloc | apply Kd.R_drewN | apply Kd.R_drew)); exact HO_4.out) hb); have n1_ := Aside0.mk (below_step (by repeat (first | (with_reducible first | exact HB.out | apply below_alloc | apply pw_below_drewN | apply below_drew1) | exact HB.out)) hb); clear HO_4; clear HB; have HO_4 := n0_; have HB := n1_; clear n0_ n1_; (try clear hb); (try clear hb2); (try clear hk); (try clear hi)))
              go_ret2
              exact ⟨by first | rfl | (simp [errW_none, errW_some] <;> rfl) | (simp [*, errW_none, errW_some] <;> rfl), by repeat (first | (with_reducible first | exact HB.out | apply below_alloc | apply pw_below_drewN | apply below_drew1) | exact HB.out)⟩
          · rw [if_neg c4] at H
            exact absurd H (by simp)
        · rw [if_neg c3] at H
          exact absurd H (by simp)
      · rw [if_neg c2] at H
        have c2b0 : decide (x13_1 < (l0.length : Int)) = false := decide_eq_false c2
        clear c2
        have H' := Aside0.mk H
        clear H
        obtain ⟨Ao17, co17, eo17⟩ := Kd.R_slice HO_4.out
        subst eo17
        go_wp2
        go_loopg [8, 34] k1 (fun kq v8 v34 w' => ∃ (x8_2 : ByteArray) (x34_2 : Int), v8 = .string x8_2 ∧ v34 = .int .i64 x34_2 ∧ Aside0 (feature_Format.l1 kq x8_2 x4_1 (x4_1.length : Int) x34_2 = some (r1, r2)) ∧ Aside0 (kq ≤ k1) ∧ Aside0 (Kd.R Kd.string 9 w' w.heap.size (fun _ => True) (.slice Ao17 x4_1.length co17) x4_1) ∧ Aside0 (Below w.heap.size w w'))
        case atStart => exact ⟨((⟨#[124]⟩ : ByteArray)), (0), (by first | rfl | (simp; done) | (simp [*]; done)), (by first | rfl | (simp; done) | (simp [*]; done)), H', ⟨Nat.le_refl _⟩, ⟨by (with_reducible repeat (first | apply Kd.R_alloc | apply Kd.R_drewN | apply Kd.R_drew)); exact HO_4.out⟩, ⟨by repeat (first | (with_reducible first | exact HB.out | apply below_alloc | apply pw_below_drewN | apply below_drew1) | exact HB.out)⟩⟩
        case round =>
          clear H'
          try clear c1
          try clear p1
          try clear q1
          try clear hx1
          try clear c2
          try clear c2b0
          try clear p2
          try clear c3
          try clear c3b0
          try clear c4
          try clear c4b0
          try clear c6
          try clear c6b0
          try clear c6b1
          try clear p6
          try clear c7
          try clear c7b0
          try clear c7b1
          try clear c10
          try clear c16
          try clear hx182_0
          try clear p182
          try clear q182
          obtain ⟨x8_2, x34_2, rfl, rfl, HA, HK2, HO_32, HB⟩ := hrel
          cases gk with
          | zero => exact absurd HA.out (by simp [feature_Format.l1])
          | succ k2 =>
            have H := HA.out
            clear HA
            simp only [feature_Format.l1] at H
            by_cases c18 : x34_2 < (x4_1.length : Int)
            · rw [if_pos c18] at H
              have c18b0 : decide (x34_2 < (x4_1.length : Int)) = true := decide_eq_true c18
              clear c18
              by_cases c19 : 0 ≤ x34_2
              · rw [if_pos c19] at H
                have c19b0 : decide (0 ≤ x34_2) = true := decide_eq_true c19
                clear c19
                by_cases c20 : x34_2 < (x4_1.length : Int)
                · rw [if_pos c20] at H
                  have c20b0 : decide (x34_2 < (x4_1.length : Int)) = true := decide_eq_true c20
                  clear c20
                  by_cases c21 : (rdOf ByteArray.empty x4_1 x34_2).size + 1 ≤ 9223372036854775807
                  · rw [if_pos c21] at H
                    have c21b0 := eq_true c21
                    have c21b1 : decide ((rdOf ByteArray.empty x4_1 x34_2).size + 1 ≤ 9223372036854775807) = true := decide_eq_true c21
                    try have c21b2 : (9223372036854775807 < (rdOf ByteArray.empty x4_1 x34_2).size + 1) = False := eq_false (Nat.not_lt.2 c21)
                    by_cases c22 : x8_2.size + ((rdOf ByteArray.empty x4_1 x34_2) ++ (⟨#[124]⟩ : ByteArray)).size ≤ 9223372036854775807
                    · rw [if_pos c22] at H
                      have c22b0 := eq_true c22
                      have c22b1 : decide (x8_2.size + ((rdOf ByteArray.empty x4_1 x34_2) ++ (⟨#[124]⟩ : ByteArray)).size ≤ 9223372036854775807) = true := decide_eq_true c22
                      try have c22b2 : (9223372036854775807 < x8_2.size + ((rdOf ByteArray.empty x4_1 x34_2) ++ (⟨#[124]⟩ : ByteArray)).size) = False := eq_false (Nat.not_lt.2 c22)
                      by_cases c23 : ((x8_2 ++ ((rdOf ByteArray.empty x4_1 x34_2) ++ (⟨#[124]⟩ : ByteArray))).size : Int) > 120
                      · rw [if_pos c23] at H
                        have c23b0 : decide (120 < ((x8_2 ++ ((rdOf ByteArray.empty x4_1 x34_2) ++ (⟨#[124]⟩ : ByteArray))).size : Int)) = true := decide_eq_true c23
                        have c23b1 : decide (120 < (x8_2 ++ ((rdOf ByteArray.empty x4_1 x34_2) ++ (⟨#[124]⟩ : ByteArray))).size) = true := decide_eq_true (by omega)
                        have c23b2 : decide (120 < (x8_2.size : Int) + (((rdOf ByteArray.empty x4_1 x34_2).size : Int) + 1)) = true := decide_eq_true (by have h_ := c23; rw [ByteArray.size_append, ByteArray.size_append] at h_; have h2_ : ((⟨#[124]⟩ : ByteArray)).size = 1 := rfl; omega)
                        clear c23
                        simp only [Option.some.injEq, Prod.mk.injEq] at H
                        obtain ⟨rfl, rfl⟩ := H
                        have p188 : 0 ≤ (x34_2 : Int) := of_decide_eq_true (by first | (with_reducible assumption) | assumption)
                        have q188 : x34_2 < (x4_1.length : Int) := of_decide_eq_true (by first | (with_reducible assumption) | assumption)
                        obtain ⟨ad188, e188, hx188_0⟩ := Kd.at_string (Kd.R_reads' HO_32.out).2.2 x34_2 p188 q188
                        cases e188
                        replace p188 := eq_true p188
                        replace q188 := eq_true q188
                        go_wp2
                        go_ret2
                        exact ⟨by first | rfl | (simp [errW_none, errW_some] <;> rfl) | (simp [*, errW_none, errW_some] <;> rfl), by repeat (first | (with_reducible first | exact HB.out | apply below_alloc | apply pw_below_drewN | apply below_drew1) | exact HB.out)⟩
                      · rw [if_neg c23] at H
                        have c23b0 : decide (120 < ((x8_2 ++ ((rdOf ByteArray.empty x4_1 x34_2) ++ (⟨#[124]⟩ : ByteArray))).size : Int)) = false := decide_eq_false c23
                        have c23b1 : decide (120 < (x8_2 ++ ((rdOf ByteArray.empty x4_1 x34_2) ++ (⟨#[124]⟩ : ByteArray))).size) = false := decide_eq_false (by omega)
                        have c23b2 : decide (120 < (x8_2.size : Int) + (((rdOf ByteArray.empty x4_1 x34_2).size : Int) + 1)) = false := decide_eq_false (by have h_ := c23; rw [ByteArray.size_append, ByteArray.size_append] at h_; have h2_ : ((⟨#[124]⟩ : ByteArray)).size = 1 := rfl; omega)
                        clear c23
                        have H' := Aside0.mk H
                        clear H
                        have p188 : 0 ≤ (x34_2 : Int) := of_decide_eq_true (by first | (with_reducible assumption) | assumption)
                        have q188 : x34_2 < (x4_1.length : Int) := of_decide_eq_true (by first | (with_reducible assumption) | assumption)
                        obtain ⟨ad188, e188, hx188_0⟩ := Kd.at_string (Kd.R_reads' HO_32.out).2.2 x34_2 p188 q188
                        cases e188
                        replace p188 := eq_true p188
                        replace q188 := eq_true q188
                        go_wp2
                        go_roundg k2
                        case measure => have := HK1.out; have := HK2.out; omega
                        case rel => exact ⟨(x8_2 ++ ((rdOf ByteArray.empty x4_1 x34_2) ++ (⟨#[124]⟩ : ByteArray))), (wrap64 (x34_2 + 1)), (by first | rfl | (simp; done) | (simp [*]; done)), (by first | rfl | (simp; done) | (simp [*]; done)), H', ⟨by have := HK1.out; have := HK2.out; omega⟩, ⟨by (with_reducible repeat (first | apply Kd.R_alloc | apply Kd.R_drewN | apply Kd.R_drew)); exact HO_32.out⟩, ⟨by repeat (first | (with_reducible first | exact HB.out | apply below_alloc | apply pw_below_drewN | apply below_drew1) | exact HB.out)⟩⟩
                    · rw [if_neg c22] at H
                      exact absurd H (by simp)
                  · rw [if_neg c21] at H
                    exact absurd H (by simp)
                · rw [if_neg c20] at H
                  exact absurd H (by simp)
              · rw [if_neg c19] at H
                exact absurd H (by simp)
            · rw [if_neg c18] at H
              have c18b0 : decide (x34_2 < (x4_1.length : Int)) = false := decide_eq_false c18
              clear c18
              simp only [Option.some.injEq, Prod.mk.injEq] at H
              obtain ⟨rfl, rfl⟩ := H
              go_wp2
              go_ret2
              exact ⟨by first | rfl | (simp [errW_none, errW_some] <;> rfl) | (simp [*, errW_none, errW_some] <;> rfl), by repeat (first | (with_reducible first | exact HB.out | apply below_alloc | apply pw_below_drewN | apply below_drew1) | exact HB.out)⟩

end Go.Proofs.Ytcgglamgemgeiaa.Q
/- FFeatureParseAll -/
namespace Go.Proofs.Ytcgglamgemgeiaa.Q
open Go.RowKit Go.Proofs.YtcgglamgemgeiaaW.PrintWords Go.Proofs.YtcgglamgemgeiaaW.PrintLast Go.Proofs.YtcgglamgemgeiaaW.PrintMore
attribute [local go_sem] max2_int min2_int max_two min_two max_three min_three max_four min_four   -- for this text's walks alone
set_option linter.unusedVariables false
set_option linter.unusedSimpArgs false

/-! ### feature_parseAll: function 35 -/
def feature_parseAll.l0 : Nat → List (List ByteArray) → List ByteArray → Int → Int → Option ((List (List ByteArray)) × Int)
  | 0, _, _, _, _ => none
  | k + 1, x4, x9, x10, x11 => if x11 < x10 then (if 0 ≤ x11 then (if x11 < (x9.length : Int) then ((feature_Parse.f k (rdOf ByteArray.empty x9 x11)).bind fun bt190 => (if bt190.2 = 0 then (if x4.length < 5864062014805 then (feature_parseAll.l0 k (x4 ++ [bt190.1]) x9 x10 (wrap64 (x11 + 1))) else (none)) else (some (([] : List (List ByteArray)), bt190.2)))) else (none)) else (none)) else (some (x4, 0))
def feature_parseAll.f (k : Nat) (l0 : List ByteArray) : Option ((List (List ByteArray)) × Int) := feature_parseAll.l0 k ([] : List (List ByteArray)) l0 (l0.length : Int) 0
theorem feature_parseAll.mono_l : ∀ k, (∀ y0 y1 y2 y3, LeO (feature_parseAll.l0 k y0 y1 y2 y3) (feature_parseAll.l0 (k + 1) y0 y1 y2 y3))
  | 0 => fun _ _ _ _ r h => by simp [feature_parseAll.l0] at h
  | k + 1 => by
    have ih0 := feature_parseAll.mono_l k
    · intro y0 y1 y2 y3
      unfold feature_parseAll.l0
      repeat' first
      | (with_reducible exact ih0 _ _ _ _)
      | (with_reducible exact feature_Parse.mono _ _)
      | (with_reducible exact LeO.refl _)
      | (with_reducible exact LeO.none _)
      | (with_reducible refine LeO.ite ?_ ?_)
      | (with_reducible refine LeO.bind ?_ (fun _ => ?_))
      | exact ih0 _ _ _ _
      | exact feature_Parse.mono _ _
      | exact LeO.none _
      | refine LeO.ite ?_ ?_
      | refine LeO.bind ?_ (fun _ => ?_)
theorem feature_parseAll.mono : ∀ a0 k, LeO (feature_parseAll.f k a0) (feature_parseAll.f (k + 1) a0) := by
  intro a0 k
  have ih0 := feature_parseAll.mono_l k
  unfold feature_parseAll.f
  repeat' first
      | (with_reducible exact ih0 _ _ _ _)
      | (with_reducible exact feature_Parse.mono _ _)
      | (with_reducible exact LeO.refl _)
      | (with_reducible exact LeO.none _)
      | (with_reducible refine LeO.ite ?_ ?_)
      | (with_reducible refine LeO.bind ?_ (fun _ => ?_))
      | exact ih0 _ _ _ _
      | exact feature_Parse.mono _ _
      | exact LeO.none _
      | refine LeO.ite ?_ ?_
      | refine LeO.bind ?_ (fun _ => ?_)
set_option maxHeartbeats 8000000 in
set_option maxRecDepth 100000 in
theorem feature_parseAll.calls (k : Nat) (A0 : Option Addr) (c0 : Nat) (l0 : List ByteArray) (r1 : List (List ByteArray)) (r2 : Int) (w : World) (hr0 : Kd.C Kd.string w A0 l0.length l0) (hc0 : l0.length ≤ c0) (h : feature_parseAll.f k l0 = some (r1, r2)) :
    Calls Try.prog 35 #[.slice A0 l0.length c0] w fun e w' => ∃ v0_ : Value, e = .returned (.tuple #[v0_, .int .i64 r2]) ∧ Kd.S (Kd.slice 9 Kd.string) 23 w' w.heap.size (fun _ => True) v0_ r1 ∧ Below w.heap.size w w' := by
  have HR0 := Aside0.mk hr0
  have HC0 := Aside0.mk hc0
  clear hr0 hc0
  have HB := Aside0.mk (Below.refl w.heap.size w)
  have H : (feature_parseAll.l0 k ([] : List (List ByteArray)) l0 (l0.length : Int) 0) = some (r1, r2) := h
  clear h
  have H' := Aside0.mk H
  clear H
  go_enter Try.func35, Try.ntmps35
  go_wp2
  go_loopg [4, 11] k (fun kq v4 v11 w' => ∃ (x4_1 : List (List ByteArray)) (x11_1 : Int), v11 = .int .i64 x11_1 ∧ Aside0 (feature_parseAll.l0 kq x4_1 l0 (l0.length : Int) x11_1 = some (r1, r2)) ∧ Aside0 (kq ≤ k) ∧ Aside0 (Kd.S (Kd.slice 9 Kd.string) 23 w' w.heap.size (fun _ => True) v4 x4_1) ∧ Aside0 (Below w.heap.size w w'))
  case atStart => exact ⟨(([] : List (List ByteArray))), (0), (by first | rfl | (simp; done) | (simp [*]; done)), H', ⟨Nat.le_refl _⟩, ⟨by first | exact Kd.S_nil _ _ _ _ _ | exact Kd.N_nil _ _ _ _ _ | exact Kd.V_nil _ _ _ _ _ | exact Kd.Q_nil _ _ _ _ _ | exact Kd.R_nil _ _ _ _ _⟩, ⟨by repeat (first | (with_reducible first | exact HB.out | apply below_alloc | apply pw_below_drewN | apply below_drew1) | exact HB.out)⟩⟩
  case round =>
    clear H'
    obtain ⟨x4_1, x11_1, rfl, HA, HK1, HO_4, HB⟩ := hrel
    cases gk with
    | zero => exact absurd HA.out (by simp [feature_parseAll.l0])
    | succ k1 =>
      have H := HA.out
      clear HA
      simp only [feature_parseAll.l0] at H
      by_cases c2 : x11_1 < (l0.length : Int)
      · rw [if_pos c2] at H
        have c2b0 : decide (x11_1 < (l0.length : Int)) = true := decide_eq_true c2
        clear c2
        by_cases c3 : 0 ≤ x11_1
        · rw [if_pos c3] at H
          have c3b0 : decide (0 ≤ x11_1) = true := decide_eq_true c3
          clear c3
          by_cases c4 : x11_1 < (l0.length : Int)
          · rw [if_pos c4] at H
            have c4b0 : decide (x11_1 < (l0.length : Int)) = true := decide_eq_true c4
            clear c4
            replace H := Option.bind_eq_some_iff.mp H
            obtain ⟨⟨t190, t191⟩, A50, H⟩ := H
            replace H : (if t191 = 0 then (if x4_1.length < 5864062014805 then (feature_parseAll.l0 k1 (x4_1 ++ [t190]) l0 (l0.length : Int) (wrap64 (x11_1 + 1))) else (none)) else (some (([] : List (List ByteArray)), t191))) = some (r1, r2) := H
            have A5 := Aside0.mk A50
            clear A50
            by_cases c6 : t191 = 0
            · rw [if_pos c6] at H
              have c6b0 : (t191 == 0) = true := beq_iff_eq.mpr c6
              have c6b1 : (t191 != 0) = false := bne_eq_false_iff_eq.mpr c6
              clear c6
              by_cases c7 : x4_1.length < 5864062014805
              · rw [if_pos c7] at H
                have LMc7 := Aside0.mk c7
                clear c7
                obtain ⟨y194, hy194⟩ : ∃ y_ : List (List ByteArray), y_ = (x4_1 ++ [t190]) := ⟨_, rfl⟩
                replace H : (feature_parseAll.l0 k1 y194 l0 (l0.length : Int) (wrap64 (x11_1 + 1))) = some (r1, r2) := by first | (rw [hy194]; with_reducible exact H) | (have H2_ := (Option.bind_some _ _).symm.trans H; rw [hy194]; with_reducible exact H2_) | (have H2_ := (Option.bind_some _ _).symm.trans H; with_reducible exact H2_) | with_reducible exact H | (rw [hy194]; exact H) | exact H
                have Ny194 := Aside0.mk hy194
                clear hy194
                have H' := Aside0.mk H
                clear H
                have p189 : 0 ≤ (x11_1 : Int) := of_decide_eq_true (by first | (with_reducible assumption) | assumption)
                have q189 : x11_1 < (l0.length : Int) := of_decide_eq_true (by first | (with_reducible assumption) | assumption)
                obtain ⟨ad189, e189, hx189_0⟩ := Kd.at_string HR0.out x11_1 p189 q189
                cases e189
                replace hx189_0 := (HB.out.cell (World.block_lt_of_cell? w _ hx189_0)).trans hx189_0
                replace p189 := eq_true p189
                replace q189 := eq_true q189
                go_wp2_with (first | ((with_reducible refine gate_callee (f := 12) rfl ?_); refine goesL_ (some 17) rfl rfl Try.func12 (by kernel_rfl) rfl #[.string (rdOf ByteArray.empty l0 x11_1)] rfl (by (try simp only [List.map_toArray, List.map_cons, List.map_nil]); first | done | rfl | (simp only [List.length_drop, List.length_take]; rfl)) ?_; (with_reducible refine (feature_Parse.calls k1 (rdOf ByteArray.empty l0 x11_1) t190 t191 _ A5.out).mono ?_); rintro e w8 ⟨v192, rfl, ho0, hb⟩; refine ⟨_, rfl, ?_⟩; have n0_ := Aside0.mk (Kd.S_elder' (by (with_reducible repeat (first | apply Kd.S_alloc | apply Kd.S_drewN | apply Kd.S_drew)); exact HO_4.out) (Kd.R_base ho0) hb); have n1_ := Aside0.mk (Kd.R_lower ho0 (below_size (by repeat (first | (with_reducible first | exact HB.out | apply below_alloc | apply pw_below_drewN | apply below_drew1) | exact HB.out)))); have n2_ := Aside0.mk (below_step (by repeat (first | (with_reducible first | exact HB.out | apply below_alloc | apply pw_below_drewN | apply below_drew1) | exact HB.out)) hb); clear HO_4; clear HB; have HO_4 := n0_; have HO193 := n1_; have HB := n2_; clear n0_ n1_ n2_; (try clear hb); (try clear hb2); (try clear hk); (try clear hi); (try clear ho0); obtain ⟨Ao10, co10, eo10⟩ := Kd.R_slice HO193.out; subst eo10) | ((with_reducible refine gate_builtin (b := .append) (xs := #[.tmp 23, .tmp 25]) rfl ?_); at_builtin; refine Kd.S_append (Kd.slice 9 Kd.string) (w0 := w) w.heap.size rfl (.tmp 23) (.tmp 25) 45 23 (.slice none 0 0) 24 rfl Try.underlying45 info23 rfl (by decide) (by omega) u4 x4_1 t190 [.slice Ao10 t190.length co10] (fun _ => True) (fun k_ => some k_ = (.slice Ao10 t190.length co10 : Value).ownBlock) rfl rfl ?aP (fun k_ hk_ => ((Kd.R_mono (ok' := fun k_ => ((fun _ => True)) k_ ∧ some k_ ≠ (u4 : Value).ownBlock) (Kd.R_apart' (HO193.out) (Kd.S_typed HO_4.out) (by decide)) (fun k_ hk => ⟨trivial, hk.2⟩))).1 k_ hk_.symm) ?aF ?aO ?aB ?aS ?aL ?_; (case aP => exact Kd.M_row (Kd.R_mono (Kd.R_tight rfl (Kd.R_mono (ok' := fun k_ => ((fun _ => True)) k_ ∧ some k_ ≠ (u4 : Value).ownBlock) (Kd.R_apart' (HO193.out) (Kd.S_typed HO_4.out) (by decide)) (fun k_ hk => ⟨trivial, hk.2⟩))) (fun _ h_ => h_))); (case aB => exact (by repeat (first | (with_reducible first | exact HB.out | apply below_alloc | apply pw_below_drewN | apply below_drew1) | exact HB.out))); (case aF => exact (fun _ _ => trivial)); (case aO => exact (by (with_reducible repeat (first | apply Kd.S_alloc | apply Kd.S_drewN | apply Kd.S_drew)); exact Kd.S_mono HO_4.out (fun k_ hk => ⟨trivial, fun e_ => hk.2 e_⟩))); (case aS => exact (below_size (by repeat (first | (with_reducible first | exact HB.out | apply below_alloc | apply pw_below_drewN | apply below_drew1) | exact HB.out)))); (case aL => have := LMc7.out; omega); intro v195 w9 ho hb hg hat; rw [← Ny194.out] at ho; have n0_ := Aside0.mk (hb); have n1_ := Aside0.mk (ho); clear HB; clear HO_4; clear HO193; have HB := n0_; have HO196 := n1_; clear n0_ n1_; clear ho hb hg hat))
                go_roundg k1
                case measure => have := HK1.out; omega
                case rel => exact ⟨(y194), (wrap64 (x11_1 + 1)), (by first | rfl | (simp; done) | (simp [*]; done)), H', ⟨by have := HK1.out; omega⟩, ⟨by (with_reducible repeat (first | apply Kd.S_alloc | apply Kd.S_drewN | apply Kd.S_drew)); exact HO196.out⟩, ⟨by repeat (first | (with_reducible first | exact HB.out | apply below_alloc | apply pw_below_drewN | apply below_drew1) | exact HB.out)⟩⟩
              · rw [if_neg c7] at H
                exact absurd H (by simp)
            · rw [if_neg c6] at H
              have c6b0 : (t191 == 0) = false := beq_eq_false_iff_ne.mpr c6
              have c6b1 : (t191 != 0) = true := bne_iff_ne.mpr c6
              simp only [Option.some.injEq, Prod.mk.injEq] at H
              obtain ⟨rfl, rfl⟩ := H
              have p189 : 0 ≤ (x11_1 : Int) := of_decide_eq_true (by first | (with_reducible assumption) | assumption)
              have q189 : x11_1 < (l0.length : Int) := of_decide_eq_true (by first | (with_reducible assumption) | assumption)
              obtain ⟨ad189, e189, hx189_0⟩ := Kd.at_string HR0.out x11_1 p189 q189
              cases e189
              replace hx189_0 := (HB.out.cell (World.block_lt_of_cell? w _ hx189_0)).trans hx189_0
              replace p189 := eq_true p189
              replace q189 := eq_true q189
              go_wp2_with (first | ((with_reducible refine gate_callee (f := 12) rfl ?_); refine goesL_ (some 17) rfl rfl Try.func12 (by kernel_rfl) rfl #[.string (rdOf ByteArray.empty l0 x11_1)] rfl (by (try simp only [List.map_toArray, List.map_cons, List.map_nil]); first | done | rfl | (simp only [List.length_drop, List.length_take]; rfl)) ?_; (with_reducible refine (feature_Parse.calls k1 (rdOf ByteArray.empty l0 x11_1) t190 t191 _ A5.out).mono ?_); rintro e w11 ⟨v192, rfl, ho0, hb⟩; refine ⟨_, rfl, ?_⟩; have n0_ := Aside0.mk (Kd.S_elder' (by (with_reducible repeat (first | apply Kd.S_alloc | apply Kd.S_drewN | apply Kd.S_drew)); exact HO_4.out) (Kd.R_base ho0) hb); have n1_ := Aside0.mk (Kd.R_lower ho0 (below_size (by repeat (first | (with_reducible first | exact HB.out | apply below_alloc | apply pw_below_drewN | apply below_drew1) | exact HB.out)))); have n2_ := Aside0.mk (below_step (by repeat (first | (with_reducible first | exact HB.out | apply below_alloc | apply pw_below_drewN | apply below_drew1) | exact HB.out)) hb); clear HO_4; clear HB; have HO_4 := n0_; have HO193 := n1_; have HB := n2_; clear n0_ n1_ n2_; (try clear hb); (try clear hb2); (try clear hk); (try clear hi); (try clear ho0)))
              go_ret2
              exact ⟨_, by first | rfl | (simp [errW_none, errW_some] <;> rfl) | (simp [*, errW_none, errW_some] <;> rfl), by first | exact Kd.S_nil _ _ _ _ _ | exact Kd.N_nil _ _ _ _ _ | exact Kd.V_nil _ _ _ _ _ | exact Kd.Q_nil _ _ _ _ _ | exact Kd.R_nil _ _ _ _ _, by repeat (first | (with_reducible first | exact HB.out | apply below_alloc | apply pw_below_drewN | apply below_drew1) | exact HB.out)⟩
          · rw [if_neg c4] at H
            exact absurd H (by simp)
        · rw [if_neg c3] at H
          exact absurd H (by simp)
      · rw [if_neg c2] at H
        have c2b0 : decide (x11_1 < (l0.length : Int)) = false := decide_eq_false c2
        clear c2
        simp only [Option.some.injEq, Prod.mk.injEq] at H
        obtain ⟨rfl, rfl⟩ := H
        go_wp2
        go_ret2
        exact ⟨_, by first | rfl | (simp [errW_none, errW_some] <;> rfl) | (simp [*, errW_none, errW_some] <;> rfl), by (with_reducible repeat (first | apply Kd.S_alloc | apply Kd.S_drewN | apply Kd.S_drew)); exact HO_4.out, by repeat (first | (with_reducible first | exact HB.out | apply below_alloc | apply pw_below_drewN | apply below_drew1) | exact HB.out)⟩

end Go.Proofs.Ytcgglamgemgeiaa.Q
/- FFeatureUnion -/
namespace Go.Proofs.Ytcgglamgemgeiaa.Q
open Go.RowKit Go.Proofs.YtcgglamgemgeiaaW.PrintWords Go.Proofs.YtcgglamgemgeiaaW.PrintLast Go.Proofs.YtcgglamgemgeiaaW.PrintMore
attribute [local go_sem] max2_int min2_int max_two min_two max_three min_three max_four min_four   -- for this text's walks alone
set_option linter.unusedVariables false
set_option linter.unusedSimpArgs false

/-! ### feature_Union: function 20 -/
def feature_Union.f (k : Nat) (a0 : ByteArray) (a1 : ByteArray) : Option (ByteArray × Int) := (feature_parseAll.f k (([a0, a1] : List ByteArray))).bind fun bt200 => (if bt200.2 = 0 then (if 0 < (bt200.1.length : Int) then (if 1 < (bt200.1.length : Int) then (if (rd_L1 bt200.1 0).length + (rd_L1 bt200.1 1).length < 8796093022208 then ((feature_Format.f k ((rd_L1 bt200.1 0) ++ (rd_L1 bt200.1 1))).bind fun bt206 => (some (bt206.1, bt206.2))) else (none)) else (none)) else (none)) else (some ((⟨#[]⟩ : ByteArray), bt200.2)))
theorem feature_Union.mono : ∀ a0 a1 k, LeO (feature_Union.f k a0 a1) (feature_Union.f (k + 1) a0 a1) := by
  intro a0 a1 k
  unfold feature_Union.f
  repeat' first
      | (with_reducible exact feature_Format.mono _ _)
      | (with_reducible exact feature_parseAll.mono _ _)
      | (with_reducible exact LeO.refl _)
      | (with_reducible exact LeO.none _)
      | (with_reducible refine LeO.ite ?_ ?_)
      | (with_reducible refine LeO.bind ?_ (fun _ => ?_))
      | exact feature_Format.mono _ _
      | exact feature_parseAll.mono _ _
      | exact LeO.none _
      | refine LeO.ite ?_ ?_
      | refine LeO.bind ?_ (fun _ => ?_)
def feature_Union.T4 : Bool × List (List Nat × List Nat) := (true, [([], []), ([0], [0]), ([1], [1]), ([], []), ([3], [3]), ([4], [4]), ([2, 5], [2, 5]), ([6, 6], [6]), ([7], [7]), ([7], [7]), ([8, 7, 0, 1, 2, 3, 4, 5, 6, 7, 8, 9], [8]), ([9, 10, 0, 1, 2, 3, 4, 5, 6, 7, 8, 9, 10], [9])])
def feature_Union.B4 : List Nat := [0, 1, 3, 0, 8, 24, 63, 127, 255, 255, 1023, 2047]
theorem feature_Union.tab4 : rtab .any (opsOf Try.f20 4) = feature_Union.T4 := by kernel_rfl
theorem feature_Union.bits4 : waitsOk feature_Union.T4.2 feature_Union.B4 = true := by kernel_rfl
set_option maxHeartbeats 8000000 in
set_option maxRecDepth 100000 in
theorem feature_Union.calls (k : Nat) (a0 : ByteArray) (a1 : ByteArray) (r1 : ByteArray) (r2 : Int) (w : World) (h : feature_Union.f k a0 a1 = some (r1, r2)) :
    Calls Try.prog 20 #[.string a0, .string a1] w fun e w' => e = .returned (.tuple #[.string r1, .int .i64 r2]) ∧ Below w.heap.size w w' := by
  have HB := Aside0.mk (Below.refl w.heap.size w)
  have H : ((feature_parseAll.f k (([a0, a1] : List ByteArray))).bind fun bt200 => (if bt200.2 = 0 then (if 0 < (bt200.1.length : Int) then (if 1 < (bt200.1.length : Int) then (if (rd_L1 bt200.1 0).length + (rd_L1 bt200.1 1).length < 8796093022208 then ((feature_Format.f k ((rd_L1 bt200.1 0) ++ (rd_L1 bt200.1 1))).bind fun bt206 => (some (bt206.1, bt206.2))) else (none)) else (none)) else (none)) else (some ((⟨#[]⟩ : ByteArray), bt200.2)))) = some (r1, r2) := h
  clear h
  obtain ⟨y197, hy197⟩ : ∃ y_ : List ByteArray, y_ = (([a0, a1] : List ByteArray)) := ⟨_, rfl⟩
  replace H : ((feature_parseAll.f k y197).bind fun bt200 => (if bt200.2 = 0 then (if 0 < (bt200.1.length : Int) then (if 1 < (bt200.1.length : Int) then (if (rd_L1 bt200.1 0).length + (rd_L1 bt200.1 1).length < 8796093022208 then ((feature_Format.f k ((rd_L1 bt200.1 0) ++ (rd_L1 bt200.1 1))).bind fun bt206 => (some (bt206.1, bt206.2))) else (none)) else (none)) else (none)) else (some ((⟨#[]⟩ : ByteArray), bt200.2)))) = some (r1, r2) := by first | (rw [hy197]; with_reducible exact H) | (have H2_ := (Option.bind_some _ _).symm.trans H; rw [hy197]; with_reducible exact H2_) | (have H2_ := (Option.bind_some _ _).symm.trans H; with_reducible exact H2_) | with_reducible exact H | (rw [hy197]; exact H) | exact H
  have Ny197 := Aside0.mk hy197
  clear hy197
  replace H := Option.bind_eq_some_iff.mp H
  obtain ⟨⟨t200, t201⟩, A30, H⟩ := H
  replace H : (if t201 = 0 then (if 0 < (t200.length : Int) then (if 1 < (t200.length : Int) then (if (rd_L1 t200 0).length + (rd_L1 t200 1).length < 8796093022208 then ((feature_Format.f k ((rd_L1 t200 0) ++ (rd_L1 t200 1))).bind fun bt206 => (some (bt206.1, bt206.2))) else (none)) else (none)) else (none)) else (some ((⟨#[]⟩ : ByteArray), t201))) = some (r1, r2) := H
  have A3 := Aside0.mk A30
  clear A30
  by_cases c4 : t201 = 0
  · rw [if_pos c4] at H
    have c4b0 : (t201 == 0) = true := beq_iff_eq.mpr c4
    have c4b1 : (t201 != 0) = false := bne_eq_false_iff_eq.mpr c4
    clear c4
    by_cases c5 : 0 < (t200.length : Int)
    · rw [if_pos c5] at H
      have c5b0 : decide (0 < (t200.length : Int)) = true := decide_eq_true c5
      have c5b1 : decide (0 < t200.length) = true := decide_eq_true (by omega)
      clear c5
      by_cases c6 : 1 < (t200.length : Int)
      · rw [if_pos c6] at H
        have c6b0 : decide (1 < (t200.length : Int)) = true := decide_eq_true c6
        have c6b1 : decide (1 < t200.length) = true := decide_eq_true (by omega)
        clear c6
        by_cases cl7 : (rd_L1 t200 0).length + (rd_L1 t200 1).length < 8796093022208
        rotate_left
        · rw [if_neg cl7] at H
          exact absurd H (by simp)
        rw [if_pos cl7] at H
        replace H := Option.bind_eq_some_iff.mp H
        obtain ⟨⟨t206, t207⟩, A70, H⟩ := H
        replace H : (some (t206, t207)) = some (r1, r2) := H
        have A7 := Aside0.mk A70
        clear A70
        simp only [Option.some.injEq, Prod.mk.injEq] at H
        obtain ⟨rfl, rfl⟩ := H
        go_enter Try.func20, Try.ntmps20
        try go_wp2_with (first | ((with_reducible refine gate_dst (N := 11) rfl ?_); refine Kd.R_lit Kd.string _ 9 ?hg (N := 11) ?hd (xs := ([a0, a1] : List ByteArray)) (inner := [.string a0, .string a1]) (ok := fun _ => True) (okp := fun _ => True) ?hr ?hp (fun _ hk => hk) trivial (Below.refl _ _) (Nat.le_refl _) (by simp) ?_; (case hd => rfl); (case hg => rfl); (case hr => first | (go_simp; done) | (go_simp; rfl)); (case hp => exact (Reps.one (show Kd.M Kd.string _ _ _ a0 [.string a0] from rfl) (Reps.one (show Kd.M Kd.string _ _ _ a1 [.string a1] from rfl) (Reps.none _ _)))); intro v198 w8 ho9 hb hg_ hnew_; clear hg_ hnew_; (first | rw [← Ny197.out] at ho9 | (simp only [Int.reduceToNat] at ho9; rw [← Ny197.out] at ho9)); have n0_ := Aside0.mk (Kd.R_lower ho9 (below_size (by repeat (first | (with_reducible first | exact HB.out | apply below_alloc | apply pw_below_drewN | apply below_drew1) | exact HB.out)))); have n1_ := Aside0.mk (below_step (by repeat (first | (with_reducible first | exact HB.out | apply below_alloc | apply pw_below_drewN | apply below_drew1) | exact HB.out)) hb); clear HB; have HO199 := n0_; have HB := n1_; clear n0_ n1_; clear hb ho9; obtain ⟨Ao10, co10, eo10⟩ := Kd.R_slice HO199.out; subst eo10) | ((with_reducible refine gate_callee (f := 35) rfl ?_); refine goesL_ (some 12) rfl rfl Try.func35 (by kernel_rfl) rfl #[.slice Ao10 y197.length co10] rfl (by (try simp only [List.map_toArray, List.map_cons, List.map_nil]); first | done | rfl | (simp only [List.length_drop, List.length_take]; rfl)) ?_; (with_reducible refine (feature_parseAll.calls k _ _ y197 t200 t201 _ ?side1 ?side2 A3.out).mono ?_); (case side1 => repeat (first | exact (Kd.R_reads' HO199.out).2.2 | (with_reducible refine Kd.C_alloc ?_ _) | (with_reducible refine Kd.C_drewN ?_ _) | (with_reducible refine Kd.C_drew ?_))); (case side2 => exact (Kd.R_reads' HO199.out).2.1); rintro e w11 ⟨v202, rfl, ho0, hb⟩; refine ⟨_, rfl, ?_⟩; have n0_ := Aside0.mk (Kd.R_below (by (with_reducible repeat (first | apply Kd.R_alloc | apply Kd.R_drewN | apply Kd.R_drew)); exact HO199.out) hb); have n1_ := Aside0.mk (Kd.S_lower (Kd.S_new' ho0 (Kd.R_lt (by (with_reducible repeat (first | apply Kd.R_alloc | apply Kd.R_drewN | apply Kd.R_drew)); exact HO199.out))) (below_size (by repeat (first | (with_reducible first | exact HB.out | apply below_alloc | apply pw_below_drewN | apply below_drew1) | exact HB.out)))); have n2_ := Aside0.mk (below_step (by repeat (first | (with_reducible first | exact HB.out | apply below_alloc | apply pw_below_drewN | apply below_drew1) | exact HB.out)) hb); clear HO199; clear HB; have HO199 := n0_; have HO203 := n1_; have HB := n2_; clear n0_ n1_ n2_; (try clear hb); (try clear hb2); (try clear hk); (try clear hi); (try clear ho0)))
        have n0_ := Aside0.mk (Kd.R_drew HO199.out)
        have n1_ := Aside0.mk (Kd.S_drew HO203.out)
        have n2_ := Aside0.mk (below_drew1 HB.out)
        clear HO199
        clear HO203
        clear HB
        have HO199 := n0_
        have HO203 := n1_
        have HB := n2_
        clear n0_ n1_ n2_
        obtain ⟨Ao13, co13, eo13⟩ := Kd.S_slice HO203.out
        (first | subst eo13 | (injection eo13 with f1_ f2_ f3_; have f4_ := f1_.symm; have f5_ := f3_.symm; clear f1_ f2_ f3_; subst f4_; subst f5_))
        have p204 : 0 ≤ (0 : Int) := (by omega)
        have q204 : 0 < (t200.length : Int) := of_decide_eq_true (by first | (with_reducible assumption) | assumption)
        obtain ⟨ad204, A204_0, c204_0, e204, hx204_0, hl204_0, hi204_0⟩ := at_L1 (Kd.S_reads' HO203.out).2.2 0 p204 q204
        cases e204
        obtain ⟨ce204, hce204, hMe204, hcc204⟩ := Kd.S_get HO203.out [] 0 p204 (by first | exact q204 | exact of_decide_eq_true (by first | (with_reducible assumption) | assumption) | (have e_ := (Kd.S_reads' HO203.out).1; omega))
        obtain ⟨ve204_0, rfl, ge204_0⟩ := hMe204
        have hv204_0 := hcc204 0 _ rfl
        rw [Nat.add_zero, show ((Kd.slice 9 Kd.string)).sz = 1 from rfl, Nat.mul_one] at hv204_0
        replace hv204_0 := Option.some.inj (hv204_0.symm.trans hx204_0)
        rw [hv204_0] at ge204_0
        have HL204_0 := Aside0.mk (show Kd.R Kd.string 9 _ _ _ _ (rd_L1 t200 0) from ge204_0)
        clear hv204_0 ge204_0
        clear hcc204 hce204
        have qi204 : (0 < t200.length) = True := eq_true (by omega)
        (try rw [show ((0 : Int)).toNat = 0 from rfl] at hx204_0)
        (try rw [Addr.add_zero'] at hx204_0)
        have HR204_0 := Aside0.mk hi204_0
        have HC204_0 := Aside0.mk hl204_0
        clear hi204_0 hl204_0
        replace p204 := eq_true p204
        replace q204 := eq_true q204
        have p205 : 0 ≤ (1 : Int) := (by omega)
        have q205 : 1 < (t200.length : Int) := of_decide_eq_true (by first | (with_reducible assumption) | assumption)
        obtain ⟨ad205, A205_0, c205_0, e205, hx205_0, hl205_0, hi205_0⟩ := at_L1 (Kd.S_reads' HO203.out).2.2 1 p205 q205
        obtain rfl : ad204 = ad205 := (by injection e205)
        obtain ⟨ce205, hce205, hMe205, hcc205⟩ := Kd.S_get HO203.out [] 1 p205 (by first | exact q205 | exact of_decide_eq_true (by first | (with_reducible assumption) | assumption) | (have e_ := (Kd.S_reads' HO203.out).1; omega))
        obtain ⟨ve205_0, rfl, ge205_0⟩ := hMe205
        have hv205_0 := hcc205 0 _ rfl
        rw [Nat.add_zero, show ((Kd.slice 9 Kd.string)).sz = 1 from rfl, Nat.mul_one] at hv205_0
        replace hv205_0 := Option.some.inj (hv205_0.symm.trans hx205_0)
        rw [hv205_0] at ge205_0
        have HL205_0 := Aside0.mk (show Kd.R Kd.string 9 _ _ _ _ (rd_L1 t200 1) from ge205_0)
        clear hv205_0 ge205_0
        clear hcc205 hce205
        (try simp only [show (1 : Int).toNat = 1 from rfl, Nat.reduceMul, Nat.reduceEqDiff, Go.Addr.add, ↓reduceIte] at hx205_0)
        have qi205 : (1 < t200.length) = True := eq_true (by omega)
        (try rw [show ((1 : Int)).toNat = 1 from rfl] at hx205_0)
        have HR205_0 := Aside0.mk hi205_0
        have HC205_0 := Aside0.mk hl205_0
        clear hi205_0 hl205_0
        replace p205 := eq_true p205
        replace q205 := eq_true q205
        refine start_ (n := 12) (S := fun w' => w'.cell? ad204 = some (.slice A204_0 (rd_L1 t200 0).length c204_0) ∧ w'.cell? ⟨ad204.block, ad204.off + 1, none⟩ = some (.slice A205_0 (rd_L1 t200 1).length c205_0)) (ds := [6, 7]) #[false, false, false, false, false, false, false, false, false, false, false, false] (by kernel_rfl) rfl rfl ⟨hx204_0, hx205_0⟩ (fun hHeld => ?_); refine with_tabW feature_Union.tab4 feature_Union.bits4 (fun HT_ HW_ => ?_)
        generalize w11.drew = w12 at HO199 HO203 HB HL204_0 HL205_0 HR204_0 HR205_0 hx204_0 hx205_0 hHeld ⊢
        refine pure_ (i := 0) (N := some 18) (v := ?_) (a' := ?_) #[true, false, false, false, false, false, false, false, false, false, false, false] rfl rfl (any_of HT_.out (by kernel_rfl)) (fun _ _ _ h => h) (Or.inl ⟨by rfl, ?_⟩) ?_ ?_
        rotate_left
        · intro w'
          go_simp
          with_reducible rfl
        rotate_left
        · simp only [Act.put, List.setIfInBounds_toArray, List.set_cons_zero, List.set_cons_succ, i64_w, i32_w]
          rfl
        refine pure_ (i := 1) (N := some 19) (v := ?_) (a' := ?_) #[true, true, false, false, false, false, false, false, false, false, false, false] rfl rfl (any_of HT_.out (by kernel_rfl)) (fun _ _ _ h => h) (Or.inl ⟨by rfl, ?_⟩) ?_ ?_
        rotate_left
        · intro w'
          go_simp
          with_reducible rfl
        rotate_left
        · simp only [Act.put, List.setIfInBounds_toArray, List.set_cons_zero, List.set_cons_succ, i64_w, i32_w]
          rfl
        refine pure_ (i := 3) (N := some 21) (v := ?_) (a' := ?_) #[true, true, false, true, false, false, false, false, false, false, false, false] rfl rfl (any_of HT_.out (by kernel_rfl)) (fun _ _ _ h => h) (Or.inl ⟨by rfl, ?_⟩) ?_ ?_
        rotate_left
        · intro w'
          go_simp
          with_reducible rfl
        rotate_left
        · simp only [Act.put, List.setIfInBounds_toArray, List.set_cons_zero, List.set_cons_succ, i64_w, i32_w]
          rfl
        refine pure_ (i := 4) (N := some 22) (v := ?_) (a' := ?_) #[true, true, false, true, true, false, false, false, false, false, false, false] rfl rfl (any_of HT_.out (by kernel_rfl)) (fun _ _ _ h => h) (Or.inl ⟨by rfl, ?_⟩) ?_ ?_
        rotate_left
        · intro w'
          go_simp
          with_reducible rfl
        rotate_left
        · simp only [Act.put, List.setIfInBounds_toArray, List.set_cons_zero, List.set_cons_succ, i64_w, i32_w]
          rfl
        refine take_ (i := 2) (N := some 20) (v := ?_) (a' := ?_) #[true, true, true, true, true, false, false, false, false, false, false, false] rfl rfl (take_ofW HT_.out HW_.out (by kernel_rfl)) (fun _ _ _ h => h) (Or.inl ⟨by rfl, ?_⟩) hHeld ?_ ?_
        rotate_left
        · rintro w' ⟨s0, s1⟩
          go_simp
          with_reducible rfl
        rotate_left
        · simp only [Act.put, List.setIfInBounds_toArray, List.set_cons_zero, List.set_cons_succ, i64_w, i32_w]
          rfl
        refine take_ (i := 5) (N := some 23) (v := ?_) (a' := ?_) #[true, true, true, true, true, true, false, false, false, false, false, false] rfl rfl (take_ofW HT_.out HW_.out (by kernel_rfl)) (fun _ _ _ h => h) (Or.inl ⟨by rfl, ?_⟩) hHeld ?_ ?_
        rotate_left
        · rintro w' ⟨s0, s1⟩
          go_simp
          with_reducible rfl
        rotate_left
        · simp only [Act.put, List.setIfInBounds_toArray, List.set_cons_zero, List.set_cons_succ, i64_w, i32_w]
          rfl
        refine last_ (i := 6) (N := some 24) #[true, true, true, true, true, true, true, false, false, false, false, false] rfl rfl (one_of HT_.out (by kernel_rfl)) (by decide) (fun K hK => ?_)
        refine Kd.R_append_rows_step Kd.string (w0 := w) w.heap.size (by rfl) (.tmp 20) (.tmp 23) 23 9 (.string ⟨#[]⟩) 16 rfl Try.underlying23 info9 rfl (by decide) (by omega) (.slice A204_0 (rd_L1 t200 0).length c204_0) (rd_L1 t200 0) (rd_L1 t200 1) A205_0 (rd_L1 t200 1).length c205_0 (fun _ => True) (fun _ => False) rfl rfl ?aO ?aR (fun _ _ h => h) (fun _ h => h.elim) (fun _ _ => trivial) ?aB ?aS ?aL ?_
        case aO => exact Kd.R_mono HL204_0.out (fun _ _ => trivial)
        case aR => exact HR205_0.out
        case aB => exact (by repeat (first | (with_reducible first | exact HB.out | apply below_alloc | apply pw_below_drewN | apply below_drew1) | exact HB.out))
        case aS => exact below_size (by repeat (first | (with_reducible first | exact HB.out | apply below_alloc | apply pw_below_drewN | apply below_drew1) | exact HB.out))
        case aL => omega
        intro v1_ w13 happ hb _ _
        obtain ⟨Ax_, cx_, ex_⟩ := Kd.R_slice happ
        subst ex_
        have HX_ := Aside0.mk happ
        clear happ HO199 HO203 HL204_0 HL205_0 HR204_0 HR205_0 HB
        have HB := Aside0.mk hb
        clear hb
        refine hK.out _ _ ?_
        clear hK K
        refine norm_ (a' := ?_) ?_ ?_
        rotate_left
        · show Act.put _ (some 24) _ = _
          simp only [Act.put, List.setIfInBounds_toArray, List.set_cons_zero, List.set_cons_succ, i64_w, i32_w]
          rfl
        refine last_ (i := 7) (N := some 25) #[true, true, true, true, true, true, true, true, false, false, false, false] rfl rfl (one_of HT_.out (by kernel_rfl)) (by decide) (fun K hK => ?_)
        refine goes_ Try.func16 (by kernel_rfl) rfl #[.slice Ax_ ((rd_L1 t200 0) ++ (rd_L1 t200 1)).length cx_] (by rfl) rfl rfl (by (try simp only [List.map_toArray, List.map_cons, List.map_nil]); first | done | rfl) ?_
        with_reducible refine (feature_Format.calls k _ _ ((rd_L1 t200 0) ++ (rd_L1 t200 1)) t206 t207 _ ?side1 ?side2 A7.out).mono ?_
        (case side1 => exact (Kd.R_reads' HX_.out).2.2)
        (case side2 => exact (Kd.R_reads' HX_.out).2.1)
        rintro e w14 ⟨rfl, hb⟩
        refine ⟨_, rfl, ?_⟩
        have n6_ := Aside0.mk (below_step HB.out hb)
        clear HB
        have HB := n6_
        clear n6_ hb
        refine hK.out _ _ ?_
        clear hK K
        refine norm_ (a' := ?_) ?_ ?_
        rotate_left
        · show Act.put _ (some 25) _ = _
          simp only [Act.put, List.setIfInBounds_toArray, List.set_cons_zero, List.set_cons_succ, i64_w, i32_w]
          rfl
        refine pure_ (i := 8) (N := some 26) (v := ?_) (a' := ?_) #[true, true, true, true, true, true, true, true, true, false, false, false] rfl rfl (any_of HT_.out (by kernel_rfl)) (fun _ _ _ h => h) (Or.inl ⟨by rfl, ?_⟩) ?_ ?_
        rotate_left
        · intro w'
          go_simp
          with_reducible rfl
        rotate_left
        · simp only [Act.put, List.setIfInBounds_toArray, List.set_cons_zero, List.set_cons_succ, i64_w, i32_w]
          rfl
        refine pure_ (i := 9) (N := some 27) (v := ?_) (a' := ?_) #[true, true, true, true, true, true, true, true, true, true, false, false] rfl rfl (any_of HT_.out (by kernel_rfl)) (fun _ _ _ h => h) (Or.inl ⟨by rfl, ?_⟩) ?_ ?_
        rotate_left
        · intro w'
          go_simp
          with_reducible rfl
        rotate_left
        · simp only [Act.put, List.setIfInBounds_toArray, List.set_cons_zero, List.set_cons_succ, i64_w, i32_w]
          rfl
        refine pure_ (i := 10) (N := some 4) (v := ?_) (a' := ?_) #[true, true, true, true, true, true, true, true, true, true, true, false] rfl rfl (any_of HT_.out (by kernel_rfl)) (fun _ _ _ h => h) (Or.inl ⟨by rfl, ?_⟩) ?_ ?_
        rotate_left
        · intro w'
          go_simp
          with_reducible rfl
        rotate_left
        · simp only [Act.put, List.setIfInBounds_toArray, List.set_cons_zero, List.set_cons_succ, i64_w, i32_w]
          rfl
        refine pure_ (i := 11) (N := some 5) (v := ?_) (a' := ?_) #[true, true, true, true, true, true, true, true, true, true, true, true] rfl rfl (any_of HT_.out (by kernel_rfl)) (fun _ _ _ h => h) (Or.inl ⟨by rfl, ?_⟩) ?_ ?_
        rotate_left
        · intro w'
          go_simp
          with_reducible rfl
        rotate_left
        · simp only [Act.put, List.setIfInBounds_toArray, List.set_cons_zero, List.set_cons_succ, i64_w, i32_w]
          rfl
        refine done_ (done_of HT_.out (by kernel_rfl)) ?_
        try go_wp2
        go_ret2
        exact ⟨by first | rfl | (simp [errW_none, errW_some] <;> rfl) | (simp [*, errW_none, errW_some] <;> rfl), by repeat (first | (with_reducible first | exact HB.out | apply below_alloc | apply pw_below_drewN | apply below_drew1) | exact HB.out)⟩
      · rw [if_neg c6] at H
        exact absurd H (by simp)
    · rw [if_neg c5] at H
      exact absurd H (by simp)
  · rw [if_neg c4] at H
    have c4b0 : (t201 == 0) = false := beq_eq_false_iff_ne.mpr c4
    have c4b1 : (t201 != 0) = true := bne_iff_ne.mpr c4
    simp only [Option.some.injEq, Prod.mk.injEq] at H
    obtain ⟨rfl, rfl⟩ := H
    go_enter Try.func20, Try.ntmps20
    go_wp2_with (first | ((with_reducible refine gate_dst (N := 11) rfl ?_); refine Kd.R_lit Kd.string _ 9 ?hg (N := 11) ?hd (xs := ([a0, a1] : List ByteArray)) (inner := [.string a0, .string a1]) (ok := fun _ => True) (okp := fun _ => True) ?hr ?hp (fun _ hk => hk) trivial (Below.refl _ _) (Nat.le_refl _) (by simp) ?_; (case hd => rfl); (case hg => rfl); (case hr => first | (go_simp; done) | (go_simp; rfl)); (case hp => exact (Reps.one (show Kd.M Kd.string _ _ _ a0 [.string a0] from rfl) (Reps.one (show Kd.M Kd.string _ _ _ a1 [.string a1] from rfl) (Reps.none _ _)))); intro v198 w15 ho16 hb hg_ hnew_; clear hg_ hnew_; (first | rw [← Ny197.out] at ho16 | (simp only [Int.reduceToNat] at ho16; rw [← Ny197.out] at ho16)); have n0_ := Aside0.mk (Kd.R_lower ho16 (below_size (by repeat (first | (with_reducible first | exact HB.out | apply below_alloc | apply pw_below_drewN | apply below_drew1) | exact HB.out)))); have n1_ := Aside0.mk (below_step (by repeat (first | (with_reducible first | exact HB.out | apply below_alloc | apply pw_below_drewN | apply below_drew1) | exact HB.out)) hb); clear HB; have HO199 := n0_; have HB := n1_; clear n0_ n1_; clear hb ho16; obtain ⟨Ao17, co17, eo17⟩ := Kd.R_slice HO199.out; subst eo17) | ((with_reducible refine gate_callee (f := 35) rfl ?_); refine goesL_ (some 12) rfl rfl Try.func35 (by kernel_rfl) rfl #[.slice Ao17 y197.length co17] rfl (by (try simp only [List.map_toArray, List.map_cons, List.map_nil]); first | done | rfl | (simp only [List.length_drop, List.length_take]; rfl)) ?_; (with_reducible refine (feature_parseAll.calls k _ _ y197 t200 t201 _ ?side1 ?side2 A3.out).mono ?_); (case side1 => repeat (first | exact (Kd.R_reads' HO199.out).2.2 | (with_reducible refine Kd.C_alloc ?_ _) | (with_reducible refine Kd.C_drewN ?_ _) | (with_reducible refine Kd.C_drew ?_))); (case side2 => exact (Kd.R_reads' HO199.out).2.1); rintro e w18 ⟨v202, rfl, ho0, hb⟩; refine ⟨_, rfl, ?_⟩; have n0_ := Aside0.mk (Kd.R_below (by (with_reducible repeat (first | apply Kd.R_alloc | apply Kd.R_drewN | apply Kd.R_drew)); exact HO199.out) hb); have n1_ := Aside0.mk (Kd.S_lower (Kd.S_new' ho0 (Kd.R_lt (by (with_reducible repeat (first | apply Kd.R_alloc | apply Kd.R_drewN | apply Kd.R_drew)); exact HO199.out))) (below_size (by repeat (first | (with_reducible first | exact HB.out | apply below_alloc | apply pw_below_drewN | apply below_drew1) | exact HB.out)))); have n2_ := Aside0.mk (below_step (by repeat (first | (with_reducible first | exact HB.out | apply below_alloc | apply pw_below_drewN | apply below_drew1) | exact HB.out)) hb); clear HO199; clear HB; have HO199 := n0_; have HO203 := n1_; have HB := n2_; clear n0_ n1_ n2_; (try clear hb); (try clear hb2); (try clear hk); (try clear hi); (try clear ho0)))
    go_ret2
    exact ⟨by first | rfl | (simp [errW_none, errW_some] <;> rfl) | (simp [*, errW_none, errW_some] <;> rfl), by repeat (first | (with_reducible first | exact HB.out | apply below_alloc | apply pw_below_drewN | apply below_drew1) | exact HB.out)⟩

end Go.Proofs.Ytcgglamgemgeiaa.Q
/- FCorporalaw05Awake -/
namespace Go.Proofs.Ytcgglamgemgeiaa.Q
open Go.RowKit Go.Proofs.YtcgglamgemgeiaaW.PrintWords Go.Proofs.YtcgglamgemgeiaaW.PrintLast Go.Proofs.YtcgglamgemgeiaaW.PrintMore
attribute [local go_sem] max2_int min2_int max_two min_two max_three min_three max_four min_four   -- for this text's walks alone
set_option linter.unusedVariables false
set_option linter.unusedSimpArgs false

/-! ### corporalaw05_awake: function 15 -/
def corporalaw05_awake.f (k : Nat)  : Option (Bool) := (feature_Format.f k (([(⟨#[98]⟩ : ByteArray), (⟨#[97]⟩ : ByteArray), (⟨#[98]⟩ : ByteArray)] : List ByteArray))).bind fun bt211 => ((feature_Parse.f k (⟨#[124]⟩ : ByteArray)).bind fun bt213 => ((feature_Union.f k (⟨#[124, 97, 124]⟩ : ByteArray) (⟨#[124, 98, 124]⟩ : ByteArray)).bind fun bt217 => (if bt211.1.toList = ([124, 97, 124, 98, 124] : List UInt8) then (if bt211.2 = 0 then (if (bt213.1.length : Int) = 0 then (if bt213.2 = 0 then (if bt217.1.toList = ([124, 97, 124, 98, 124] : List UInt8) then (some (bt217.2 == 0)) else (some false)) else (some false)) else (some false)) else (some false)) else (some false))))
theorem corporalaw05_awake.mono : ∀ k, LeO (corporalaw05_awake.f k ) (corporalaw05_awake.f (k + 1) ) := by
  intro  k
  unfold corporalaw05_awake.f
  repeat' first
      | (with_reducible exact feature_Format.mono _ _)
      | (with_reducible exact feature_Parse.mono _ _)
      | (with_reducible exact feature_Union.mono _ _ _)
      | (with_reducible exact LeO.refl _)
      | (with_reducible exact LeO.none _)
      | (with_reducible refine LeO.ite ?_ ?_)
      | (with_reducible refine LeO.bind ?_ (fun _ => ?_))
      | exact feature_Format.mono _ _
      | exact feature_Parse.mono _ _
      | exact feature_Union.mono _ _ _
      | exact LeO.none _
      | refine LeO.ite ?_ ?_
      | refine LeO.bind ?_ (fun _ => ?_)
set_option maxHeartbeats 8000000 in
set_option maxRecDepth 100000 in
theorem corporalaw05_awake.calls (k : Nat)  (r : Bool) (w : World) (h : corporalaw05_awake.f k  = some r) :
    Calls Try.prog 15 #[] w fun e w' => e = .returned (.bool r) ∧ Below w.heap.size w w' := by
  have HB := Aside0.mk (Below.refl w.heap.size w)
  have H : ((feature_Format.f k (([(⟨#[98]⟩ : ByteArray), (⟨#[97]⟩ : ByteArray), (⟨#[98]⟩ : ByteArray)] : List ByteArray))).bind fun bt211 => ((feature_Parse.f k (⟨#[124]⟩ : ByteArray)).bind fun bt213 => ((feature_Union.f k (⟨#[124, 97, 124]⟩ : ByteArray) (⟨#[124, 98, 124]⟩ : ByteArray)).bind fun bt217 => (if bt211.1.toList = ([124, 97, 124, 98, 124] : List UInt8) then (if bt211.2 = 0 then (if (bt213.1.length : Int) = 0 then (if bt213.2 = 0 then (if bt217.1.toList = ([124, 97, 124, 98, 124] : List UInt8) then (some (bt217.2 == 0)) else (some false)) else (some false)) else (some false)) else (some false)) else (some false))))) = some r := h
  clear h
  obtain ⟨y208, hy208⟩ : ∃ y_ : List ByteArray, y_ = (([(⟨#[98]⟩ : ByteArray), (⟨#[97]⟩ : ByteArray), (⟨#[98]⟩ : ByteArray)] : List ByteArray)) := ⟨_, rfl⟩
  replace H : ((feature_Format.f k y208).bind fun bt211 => ((feature_Parse.f k (⟨#[124]⟩ : ByteArray)).bind fun bt213 => ((feature_Union.f k (⟨#[124, 97, 124]⟩ : ByteArray) (⟨#[124, 98, 124]⟩ : ByteArray)).bind fun bt217 => (if bt211.1.toList = ([124, 97, 124, 98, 124] : List UInt8) then (if bt211.2 = 0 then (if (bt213.1.length : Int) = 0 then (if bt213.2 = 0 then (if bt217.1.toList = ([124, 97, 124, 98, 124] : List UInt8) then (some (bt217.2 == 0)) else (some false)) else (some false)) else (some false)) else (some false)) else (some false))))) = some r := by first | (rw [hy208]; with_reducible exact H) | (have H2_ := (Option.bind_some _ _).symm.trans H; rw [hy208]; with_reducible exact H2_) | (have H2_ := (Option.bind_some _ _).symm.trans H; with_reducible exact H2_) | with_reducible exact H | (rw [hy208]; exact H) | exact H
  have Ny208 := Aside0.mk hy208
  clear hy208
  replace H := Option.bind_eq_some_iff.mp H
  obtain ⟨⟨t211, t212⟩, A10, H⟩ := H
  replace H : ((feature_Parse.f k (⟨#[124]⟩ : ByteArray)).bind fun bt213 => ((feature_Union.f k (⟨#[124, 97, 124]⟩ : ByteArray) (⟨#[124, 98, 124]⟩ : ByteArray)).bind fun bt217 => (if t211.toList = ([124, 97, 124, 98, 124] : List UInt8) then (if t212 = 0 then (if (bt213.1.length : Int) = 0 then (if bt213.2 = 0 then (if bt217.1.toList = ([124, 97, 124, 98, 124] : List UInt8) then (some (bt217.2 == 0)) else (some false)) else (some false)) else (some false)) else (some false)) else (some false)))) = some r := H
  have A1 := Aside0.mk A10
  clear A10
  replace H := Option.bind_eq_some_iff.mp H
  obtain ⟨⟨t213, t214⟩, A20, H⟩ := H
  replace H : ((feature_Union.f k (⟨#[124, 97, 124]⟩ : ByteArray) (⟨#[124, 98, 124]⟩ : ByteArray)).bind fun bt217 => (if t211.toList = ([124, 97, 124, 98, 124] : List UInt8) then (if t212 = 0 then (if (t213.length : Int) = 0 then (if t214 = 0 then (if bt217.1.toList = ([124, 97, 124, 98, 124] : List UInt8) then (some (bt217.2 == 0)) else (some false)) else (some false)) else (some false)) else (some false)) else (some false))) = some r := H
  have A2 := Aside0.mk A20
  clear A20
  replace H := Option.bind_eq_some_iff.mp H
  obtain ⟨⟨t217, t218⟩, A30, H⟩ := H
  replace H : (if t211.toList = ([124, 97, 124, 98, 124] : List UInt8) then (if t212 = 0 then (if (t213.length : Int) = 0 then (if t214 = 0 then (if t217.toList = ([124, 97, 124, 98, 124] : List UInt8) then (some (t218 == 0)) else (some false)) else (some false)) else (some false)) else (some false)) else (some false)) = some r := H
  have A3 := Aside0.mk A30
  clear A30
  by_cases c4 : t211.toList = ([124, 97, 124, 98, 124] : List UInt8)
  · rw [if_pos c4] at H
    have c4b0 : (t211.toList == ([124, 97, 124, 98, 124] : List UInt8)) = true := beq_iff_eq.mpr c4
    have c4b1 : (t211.toList != ([124, 97, 124, 98, 124] : List UInt8)) = false := bne_eq_false_iff_eq.mpr c4
    clear c4
    by_cases c5 : t212 = 0
    · rw [if_pos c5] at H
      have c5b0 : (t212 == 0) = true := beq_iff_eq.mpr c5
      have c5b1 : (t212 != 0) = false := bne_eq_false_iff_eq.mpr c5
      clear c5
      by_cases c6 : (t213.length : Int) = 0
      · rw [if_pos c6] at H
        have c6b0 : ((t213.length : Int) == 0) = true := beq_iff_eq.mpr c6
        have c6b1 : ((t213.length : Int) != 0) = false := bne_eq_false_iff_eq.mpr c6
        clear c6
        by_cases c7 : t214 = 0
        · rw [if_pos c7] at H
          have c7b0 : (t214 == 0) = true := beq_iff_eq.mpr c7
          have c7b1 : (t214 != 0) = false := bne_eq_false_iff_eq.mpr c7
          clear c7
          by_cases c8 : t217.toList = ([124, 97, 124, 98, 124] : List UInt8)
          · rw [if_pos c8] at H
            have c8b0 : (t217.toList == ([124, 97, 124, 98, 124] : List UInt8)) = true := beq_iff_eq.mpr c8
            have c8b1 : (t217.toList != ([124, 97, 124, 98, 124] : List UInt8)) = false := bne_eq_false_iff_eq.mpr c8
            clear c8
            obtain rfl := Option.some.inj H
            go_enter Try.func15, Try.ntmps15
            go_wp2_with (first | ((with_reducible refine gate_dst (N := 8) rfl ?_); (try (refine gate_guard (by rfl) ?_; dsimp only)); refine Kd.R_lit Kd.string _ 9 ?hg (N := 8) ?hd (xs := ([(⟨#[98]⟩ : ByteArray), (⟨#[97]⟩ : ByteArray), (⟨#[98]⟩ : ByteArray)] : List ByteArray)) (inner := [.string (⟨#[98]⟩ : ByteArray), .string (⟨#[97]⟩ : ByteArray), .string (⟨#[98]⟩ : ByteArray)]) (ok := fun _ => True) (okp := fun _ => True) ?hr ?hp (fun _ hk => hk) trivial (Below.refl _ _) (Nat.le_refl _) (by simp) ?_; (case hd => rfl); (case hg => rfl); (case hr => first | (go_simp; done) | (go_simp; rfl)); (case hp => exact (Reps.one (show Kd.M Kd.string _ _ _ (⟨#[98]⟩ : ByteArray) [.string (⟨#[98]⟩ : ByteArray)] from rfl) (Reps.one (show Kd.M Kd.string _ _ _ (⟨#[97]⟩ : ByteArray) [.string (⟨#[97]⟩ : ByteArray)] from rfl) (Reps.one (show Kd.M Kd.string _ _ _ (⟨#[98]⟩ : ByteArray) [.string (⟨#[98]⟩ : ByteArray)] from rfl) (Reps.none _ _))))); intro v209 w9 ho10 hb hg_ hnew_; clear hg_ hnew_; (first | rw [← Ny208.out] at ho10 | (simp only [Int.reduceToNat] at ho10; rw [← Ny208.out] at ho10)); have n0_ := Aside0.mk (Kd.R_lower ho10 (below_size (by repeat (first | (with_reducible first | exact HB.out | apply below_alloc | apply pw_below_drewN | apply below_drew1) | exact HB.out)))); have n1_ := Aside0.mk (below_step (by repeat (first | (with_reducible first | exact HB.out | apply below_alloc | apply pw_below_drewN | apply below_drew1) | exact HB.out)) hb); clear HB; have HO210 := n0_; have HB := n1_; clear n0_ n1_; clear hb ho10; obtain ⟨Ao11, co11, eo11⟩ := Kd.R_slice HO210.out; subst eo11) | ((with_reducible refine gate_callee (f := 16) rfl ?_); refine goesL_ (some 9) rfl rfl Try.func16 (by kernel_rfl) rfl #[.slice Ao11 y208.length co11] rfl (by (try simp only [List.map_toArray, List.map_cons, List.map_nil]); first | done | rfl | (simp only [List.length_drop, List.length_take]; rfl)) ?_; (with_reducible refine (feature_Format.calls k _ _ y208 t211 t212 _ ?side1 ?side2 A1.out).mono ?_); (case side1 => repeat (first | exact (Kd.R_reads' HO210.out).2.2 | (with_reducible refine Kd.C_alloc ?_ _) | (with_reducible refine Kd.C_drewN ?_ _) | (with_reducible refine Kd.C_drew ?_))); (case side2 => exact (Kd.R_reads' HO210.out).2.1); rintro e w12 ⟨rfl, hb⟩; refine ⟨_, rfl, ?_⟩; have n0_ := Aside0.mk (Kd.R_below (by (with_reducible repeat (first | apply Kd.R_alloc | apply Kd.R_drewN | apply Kd.R_drew)); exact HO210.out) hb); have n1_ := Aside0.mk (below_step (by repeat (first | (with_reducible first | exact HB.out | apply below_alloc | apply pw_below_drewN | apply below_drew1) | exact HB.out)) hb); clear HO210; clear HB; have HO210 := n0_; have HB := n1_; clear n0_ n1_; (try clear hb); (try clear hb2); (try clear hk); (try clear hi)) | ((with_reducible refine gate_callee (f := 12) rfl ?_); refine goesL_ (some 13) rfl rfl Try.func12 (by kernel_rfl) rfl #[.string (⟨#[124]⟩ : ByteArray)] rfl (by (try simp only [List.map_toArray, List.map_cons, List.map_nil]); first | done | rfl | (simp only [List.length_drop, List.length_take]; rfl)) ?_; (with_reducible refine (feature_Parse.calls k (⟨#[124]⟩ : ByteArray) t213 t214 _ A2.out).mono ?_); rintro e w13 ⟨v215, rfl, ho0, hb⟩; refine ⟨_, rfl, ?_⟩; have n0_ := Aside0.mk (Kd.R_elder' (by (with_reducible repeat (first | apply Kd.R_alloc | apply Kd.R_drewN | apply Kd.R_drew)); exact HO210.out) (Kd.R_base ho0) hb); have n1_ := Aside0.mk (Kd.R_lower (Kd.R_new' ho0 (Kd.R_lt (by (with_reducible repeat (first | apply Kd.R_alloc | apply Kd.R_drewN | apply Kd.R_drew)); exact HO210.out))) (below_size (by repeat (first | (with_reducible first | exact HB.out | apply below_alloc | apply pw_below_drewN | apply below_drew1) | exact HB.out)))); have n2_ := Aside0.mk (below_step (by repeat (first | (with_reducible first | exact HB.out | apply below_alloc | apply pw_below_drewN | apply below_drew1) | exact HB.out)) hb); clear HO210; clear HB; have HO210 := n0_; have HO216 := n1_; have HB := n2_; clear n0_ n1_ n2_; (try clear hb); (try clear hb2); (try clear hk); (try clear hi); (try clear ho0)) | ((with_reducible refine gate_callee (f := 20) rfl ?_); refine goesL_ (some 17) rfl rfl Try.func20 (by kernel_rfl) rfl #[.string (⟨#[124, 97, 124]⟩ : ByteArray), .string (⟨#[124, 98, 124]⟩ : ByteArray)] rfl (by (try simp only [List.map_toArray, List.map_cons, List.map_nil]); first | done | rfl | (simp only [List.length_drop, List.length_take]; rfl)) ?_; (with_reducible refine (feature_Union.calls k (⟨#[124, 97, 124]⟩ : ByteArray) (⟨#[124, 98, 124]⟩ : ByteArray) t217 t218 _ A3.out).mono ?_); rintro e w14 ⟨rfl, hb⟩; refine ⟨_, rfl, ?_⟩; have n0_ := Aside0.mk (Kd.R_below (by (with_reducible repeat (first | apply Kd.R_alloc | apply Kd.R_drewN | apply Kd.R_drew)); exact HO210.out) hb); have n1_ := Aside0.mk (Kd.R_below (by (with_reducible repeat (first | apply Kd.R_alloc | apply Kd.R_drewN | apply Kd.R_drew)); exact HO216.out) hb); have n2_ := Aside0.mk (below_step (by repeat (first | (with_reducible first | exact HB.out | apply below_alloc | apply pw_below_drewN | apply below_drew1) | exact HB.out)) hb); clear HO210; clear HO216; clear HB; have HO210 := n0_; have HO216 := n1_; have HB := n2_; clear n0_ n1_ n2_; (try clear hb); (try clear hb2); (try clear hk); (try clear hi); obtain ⟨Ao15, co15, eo15⟩ := Kd.R_slice HO216.out; subst eo15))
            go_ret
            exact ⟨by first | rfl | (simp [errW_none, errW_some] <;> rfl) | (simp [*, errW_none, errW_some] <;> rfl), by repeat (first | (with_reducible first | exact HB.out | apply below_alloc | apply pw_below_drewN | apply below_drew1) | exact HB.out)⟩
          · rw [if_neg c8] at H
            have c8b0 : (t217.toList == ([124, 97, 124, 98, 124] : List UInt8)) = false := beq_eq_false_iff_ne.mpr c8
            have c8b1 : (t217.toList != ([124, 97, 124, 98, 124] : List UInt8)) = true := bne_iff_ne.mpr c8
            obtain rfl := Option.some.inj H
            go_enter Try.func15, Try.ntmps15
            go_wp2_with (first | ((with_reducible refine gate_dst (N := 8) rfl ?_); (try (refine gate_guard (by rfl) ?_; dsimp only)); refine Kd.R_lit Kd.string _ 9 ?hg (N := 8) ?hd (xs := ([(⟨#[98]⟩ : ByteArray), (⟨#[97]⟩ : ByteArray), (⟨#[98]⟩ : ByteArray)] : List ByteArray)) (inner := [.string (⟨#[98]⟩ : ByteArray), .string (⟨#[97]⟩ : ByteArray), .string (⟨#[98]⟩ : ByteArray)]) (ok := fun _ => True) (okp := fun _ => True) ?hr ?hp (fun _ hk => hk) trivial (Below.refl _ _) (Nat.le_refl _) (by simp) ?_; (case hd => rfl); (case hg => rfl); (case hr => first | (go_simp; done) | (go_simp; rfl)); (case hp => exact (Reps.one (show Kd.M Kd.string _ _ _ (⟨#[98]⟩ : ByteArray) [.string (⟨#[98]⟩ : ByteArray)] from rfl) (Reps.one (show Kd.M Kd.string _ _ _ (⟨#[97]⟩ : ByteArray) [.string (⟨#[97]⟩ : ByteArray)] from rfl) (Reps.one (show Kd.M Kd.string _ _ _ (⟨#[98]⟩ : ByteArray) [.string (⟨#[98]⟩ : ByteArray)] from rfl) (Reps.none _ _))))); intro v209 w16 ho17 hb hg_ hnew_; clear hg_ hnew_; (first | rw [← Ny208.out] at ho17 | (simp only [Int.reduceToNat] at ho17; rw [← Ny208.out] at ho17)); have n0_ := Aside0.mk (Kd.R_lower ho17 (below_size (by repeat (first | (with_reducible first | exact HB.out | apply below_alloc | apply pw_below_drewN | apply below_drew1) | exact HB.out)))); have n1_ := Aside0.mk (below_step (by repeat (first | (with_reducible first | exact HB.out | apply below_alloc | apply pw_below_drewN | apply below_drew1) | exact HB.out)) hb); clear HB; have HO210 := n0_; have HB := n1_; clear n0_ n1_; clear hb ho17; obtain ⟨Ao18, co18, eo18⟩ := Kd.R_slice HO210.out; subst eo18) | ((with_reducible refine gate_callee (f := 16) rfl ?_); refine goesL_ (some 9) rfl rfl Try.func16 (by kernel_rfl) rfl #[.slice Ao18 y208.length co18] rfl (by (try simp only [List.map_toArray, List.map_cons, List.map_nil]); first | done | rfl | (simp only [List.length_drop, List.length_take]; rfl)) ?_; (with_reducible refine (feature_Format.calls k _ _ y208 t211 t212 _ ?side1 ?side2 A1.out).mono ?_); (case side1 => repeat (first | exact (Kd.R_reads' HO210.out).2.2 | (with_reducible refine Kd.C_alloc ?_ _) | (with_reducible refine Kd.C_drewN ?_ _) | (with_reducible refine Kd.C_drew ?_))); (case side2 => exact (Kd.R_reads' HO210.out).2.1); rintro e w19 ⟨rfl, hb⟩; refine ⟨_, rfl, ?_⟩; have n0_ := Aside0.mk (Kd.R_below (by (with_reducible repeat (first | apply Kd.R_alloc | apply Kd.R_drewN | apply Kd.R_drew)); exact HO210.out) hb); have n1_ := Aside0.mk (below_step (by repeat (first | (with_reducible first | exact HB.out | apply below_alloc | apply pw_below_drewN | apply below_drew1) | exact HB.out)) hb); clear HO210; clear HB; have HO210 := n0_; have HB := n1_; clear n0_ n1_; (try clear hb); (try clear hb2); (try clear hk); (try clear hi)) | ((with_reducible refine gate_callee (f := 12) rfl ?_); refine goesL_ (some 13) rfl rfl Try.func12 (by kernel_rfl) rfl #[.string (⟨#[124]⟩ : ByteArray)] rfl (by (try simp only [List.map_toArray, List.map_cons, List.map_nil]); first | done | rfl | (simp only [List.length_drop, List.length_take]; rfl)) ?_; (with_reducible refine (feature_Parse.calls k (⟨#[124]⟩ : ByteArray) t213 t214 _ A2.out).mono ?_); rintro e w20 ⟨v215, rfl, ho0, hb⟩; refine ⟨_, rfl, ?_⟩; have n0_ := Aside0.mk (Kd.R_elder' (by (with_reducible repeat (first | apply Kd.R_alloc | apply Kd.R_drewN | apply Kd.R_drew)); exact HO210.out) (Kd.R_base ho0) hb); have n1_ := Aside0.mk (Kd.R_lower (Kd.R_new' ho0 (Kd.R_lt (by (with_reducible repeat (first | apply Kd.R_alloc | apply Kd.R_drewN | apply Kd.R_drew)); exact HO210.out))) (below_size (by repeat (first | (with_reducible first | exact HB.out | apply below_alloc | apply pw_below_drewN | apply below_drew1) | exact HB.out)))); have n2_ := Aside0.mk (below_step (by repeat (first | (with_reducible first | exact HB.out | apply below_alloc | apply pw_below_drewN | apply below_drew1) | exact HB.out)) hb); clear HO210; clear HB; have HO210 := n0_; have HO216 := n1_; have HB := n2_; clear n0_ n1_ n2_; (try clear hb); (try clear hb2); (try clear hk); (try clear hi); (try clear ho0)) | ((with_reducible refine gate_callee (f := 20) rfl ?_); refine goesL_ (some 17) rfl rfl Try.func20 (by kernel_rfl) rfl #[.string (⟨#[124, 97, 124]⟩ : ByteArray), .string (⟨#[124, 98, 124]⟩ : ByteArray)] rfl (by (try simp only [List.map_toArray, List.map_cons, List.map_nil]); first | done | rfl | (simp only [List.length_drop, List.length_take]; rfl)) ?_; (with_reducible refine (feature_Union.calls k (⟨#[124, 97, 124]⟩ : ByteArray) (⟨#[124, 98, 124]⟩ : ByteArray) t217 t218 _ A3.out).mono ?_); rintro e w21 ⟨rfl, hb⟩; refine ⟨_, rfl, ?_⟩; have n0_ := Aside0.mk (Kd.R_below (by (with_reducible repeat (first | apply Kd.R_alloc | apply Kd.R_drewN | apply Kd.R_drew)); exact HO210.out) hb); have n1_ := Aside0.mk (Kd.R_below (by (with_reducible repeat (first | apply Kd.R_alloc | apply Kd.R_drewN | apply Kd.R_drew)); exact HO216.out) hb); have n2_ := Aside0.mk (below_step (by repeat (first | (with_reducible first | exact HB.out | apply below_alloc | apply pw_below_drewN | apply below_drew1) | exact HB.out)) hb); clear HO210; clear HO216; clear HB; have HO210 := n0_; have HO216 := n1_; have HB := n2_; clear n0_ n1_ n2_; (try clear hb); (try clear hb2); (try clear hk); (try clear hi); obtain ⟨Ao22, co22, eo22⟩ := Kd.R_slice HO216.out; subst eo22))
            go_ret
            exact ⟨by first | rfl | (simp [errW_none, errW_some] <;> rfl) | (simp [*, errW_none, errW_some] <;> rfl), by repeat (first | (with_reducible first | exact HB.out | apply below_alloc | apply pw_below_drewN | apply below_drew1) | exact HB.out)⟩
        · rw [if_neg c7] at H
          have c7b0 : (t214 == 0) = false := beq_eq_false_iff_ne.mpr c7
          have c7b1 : (t214 != 0) = true := bne_iff_ne.mpr c7
          obtain rfl := Option.some.inj H
          go_enter Try.func15, Try.ntmps15
          go_wp2_with (first | ((with_reducible refine gate_dst (N := 8) rfl ?_); (try (refine gate_guard (by rfl) ?_; dsimp only)); refine Kd.R_lit Kd.string _ 9 ?hg (N := 8) ?hd (xs := ([(⟨#[98]⟩ : ByteArray), (⟨#[97]⟩ : ByteArray), (⟨#[98]⟩ : ByteArray)] : List ByteArray)) (inner := [.string (⟨#[98]⟩ : ByteArray), .string (⟨#[97]⟩ : ByteArray), .string (⟨#[98]⟩ : ByteArray)]) (ok := fun _ => True) (okp := fun _ => True) ?hr ?hp (fun _ hk => hk) trivial (Below.refl _ _) (Nat.le_refl _) (by simp) ?_; (case hd => rfl); (case hg => rfl); (case hr => first | (go_simp; done) | (go_simp; rfl)); (case hp => exact (Reps.one (show Kd.M Kd.string _ _ _ (⟨#[98]⟩ : ByteArray) [.string (⟨#[98]⟩ : ByteArray)] from rfl) (Reps.one (show Kd.M Kd.string _ _ _ (⟨#[97]⟩ : ByteArray) [.string (⟨#[97]⟩ : ByteArray)] from rfl) (Reps.one (show Kd.M Kd.string _ _ _ (⟨#[98]⟩ : ByteArray) [.string (⟨#[98]⟩ : ByteArray)] from rfl) (Reps.none _ _))))); intro v209 w23 ho24 hb hg_ hnew_; clear hg_ hnew_; (first | rw [← Ny208.out] at ho24 | (simp only [Int.reduceToNat] at ho24; rw [← Ny208.out] at ho24)); have n0_ := Aside0.mk (Kd.R_lower ho24 (below_size (by repeat (first | (with_reducible first | exact HB.out | apply below_alloc | apply pw_below_drewN | apply below_drew1) | exact HB.out)))); have n1_ := Aside0.mk (below_step (by repeat (first | (with_reducible first | exact HB.out | apply below_alloc | apply pw_below_drewN | apply below_drew1) | exact HB.out)) hb); clear HB; have HO210 := n0_; have HB := n1_; clear n0_ n1_; clear hb ho24; obtain ⟨Ao25, co25, eo25⟩ := Kd.R_slice HO210.out; subst eo25) | ((with_reducible refine gate_callee (f := 16) rfl ?_); refine goesL_ (some 9) rfl rfl Try.func16 (by kernel_rfl) rfl #[.slice Ao25 y208.length co25] rfl (by (try simp only [List.map_toArray, List.map_cons, List.map_nil]); first | done | rfl | (simp only [List.length_drop, List.length_take]; rfl)) ?_; (with_reducible refine (feature_Format.calls k _ _ y208 t211 t212 _ ?side1 ?side2 A1.out).mono ?_); (case side1 => repeat (first | exact (Kd.R_reads' HO210.out).2.2 | (with_reducible refine Kd.C_alloc ?_ _) | (with_reducible refine Kd.C_drewN ?_ _) | (with_reducible refine Kd.C_drew ?_))); (case side2 => exact (Kd.R_reads' HO210.out).2.1); rintro e w26 ⟨rfl, hb⟩; refine ⟨_, rfl, ?_⟩; have n0_ := Aside0.mk (Kd.R_below (by (with_reducible repeat (first | apply Kd.R_alloc | apply Kd.R_drewN | apply Kd.R_drew)); exact HO210.out) hb); have n1_ := Aside0.mk (below_step (by repeat (first | (with_reducible first | exact HB.out | apply below_alloc | apply pw_below_drewN | apply below_drew1) | exact HB.out)) hb); clear HO210; clear HB; have HO210 := n0_; have HB := n1_; clear n0_ n1_; (try clear hb); (try clear hb2); (try clear hk); (try clear hi)) | ((with_reducible refine gate_callee (f := 12) rfl ?_); refine goesL_ (some 13) rfl rfl Try.func12 (by kernel_rfl) rfl #[.string (⟨#[124]⟩ : ByteArray)] rfl (by (try simp only [List.map_toArray, List.map_cons, List.map_nil]); first | done | rfl | (simp only [List.length_drop, List.length_take]; rfl)) ?_; (with_reducible refine (feature_Parse.calls k (⟨#[124]⟩ : ByteArray) t213 t214 _ A2.out).mono ?_); rintro e w27 ⟨v215, rfl, ho0, hb⟩; refine ⟨_, rfl, ?_⟩; have n0_ := Aside0.mk (Kd.R_elder' (by (with_reducible repeat (first | apply Kd.R_alloc | apply Kd.R_drewN | apply Kd.R_drew)); exact HO210.out) (Kd.R_base ho0) hb); have n1_ := Aside0.mk (Kd.R_lower (Kd.R_new' ho0 (Kd.R_lt (by (with_reducible repeat (first | apply Kd.R_alloc | apply Kd.R_drewN | apply Kd.R_drew)); exact HO210.out))) (below_size (by repeat (first | (with_reducible first | exact HB.out | apply below_alloc | apply pw_below_drewN | apply below_drew1) | exact HB.out)))); have n2_ := Aside0.mk (below_step (by repeat (first | (with_reducible first | exact HB.out | apply below_alloc | apply pw_below_drewN | apply below_drew1) | exact HB.out)) hb); clear HO210; clear HB; have HO210 := n0_; have HO216 := n1_; have HB := n2_; clear n0_ n1_ n2_; (try clear hb); (try clear hb2); (try clear hk); (try clear hi); (try clear ho0)) | ((with_reducible refine gate_callee (f := 20) rfl ?_); refine goesL_ (some 17) rfl rfl Try.func20 (by kernel_rfl) rfl #[.string (⟨#[124, 97, 124]⟩ : ByteArray), .string (⟨#[124, 98, 124]⟩ : ByteArray)] rfl (by (try simp only [List.map_toArray, List.map_cons, List.map_nil]); first | done | rfl | (simp only [List.length_drop, List.length_take]; rfl)) ?_; (with_reducible refine (feature_Union.calls k (⟨#[124, 97, 124]⟩ : ByteArray) (⟨#[124, 98, 124]⟩ : ByteArray) t217 t218 _ A3.out).mono ?_); rintro e w28 ⟨rfl, hb⟩; refine ⟨_, rfl, ?_⟩; have n0_ := Aside0.mk (Kd.R_below (by (with_reducible repeat (first | apply Kd.R_alloc | apply Kd.R_drewN | apply Kd.R_drew)); exact HO210.out) hb); have n1_ := Aside0.mk (Kd.R_below (by (with_reducible repeat (first | apply Kd.R_alloc | apply Kd.R_drewN | apply Kd.R_drew)); exact HO216.out) hb); have n2_ := Aside0.mk (below_step (by repeat (first | (with_reducible first | exact HB.out | apply below_alloc | apply pw_below_drewN | apply below_drew1) | exact HB.out)) hb); clear HO210; clear HO216; clear HB; have HO210 := n0_; have HO216 := n1_; have HB := n2_; clear n0_ n1_ n2_; (try clear hb); (try clear hb2); (try clear hk); (try clear hi); obtain ⟨Ao29, co29, eo29⟩ := Kd.R_slice HO216.out; subst eo29))
          go_ret
          exact ⟨by first | rfl | (simp [errW_none, errW_some] <;> rfl) | (simp [*, errW_none, errW_some] <;> rfl), by repeat (first | (with_reducible first | exact HB.out | apply below_alloc | apply pw_below_drewN | apply below_drew1) | exact HB.out)⟩
      · rw [if_neg c6] at H
        have c6b0 : ((t213.length : Int) == 0) = false := beq_eq_false_iff_ne.mpr c6
        have c6b1 : ((t213.length : Int) != 0) = true := bne_iff_ne.mpr c6
        have c6b2 : ¬ (t213 = []) := fun h_ => c6 (by rw [h_]; rfl)
        obtain rfl := Option.some.inj H
        go_enter Try.func15, Try.ntmps15
        go_wp2_with (first | ((with_reducible refine gate_dst (N := 8) rfl ?_); (try (refine gate_guard (by rfl) ?_; dsimp only)); refine Kd.R_lit Kd.string _ 9 ?hg (N := 8) ?hd (xs := ([(⟨#[98]⟩ : ByteArray), (⟨#[97]⟩ : ByteArray), (⟨#[98]⟩ : ByteArray)] : List ByteArray)) (inner := [.string (⟨#[98]⟩ : ByteArray), .string (⟨#[97]⟩ : ByteArray), .string (⟨#[98]⟩ : ByteArray)]) (ok := fun _ => True) (okp := fun _ => True) ?hr ?hp (fun _ hk => hk) trivial (Below.refl _ _) (Nat.le_refl _) (by simp) ?_; (case hd => rfl); (case hg => rfl); (case hr => first | (go_simp; done) | (go_simp; rfl)); (case hp => exact (Reps.one (show Kd.M Kd.string _ _ _ (⟨#[98]⟩ : ByteArray) [.string (⟨#[98]⟩ : ByteArray)] from rfl) (Reps.one (show Kd.M Kd.string _ _ _ (⟨#[97]⟩ : ByteArray) [.string (⟨#[97]⟩ : ByteArray)] from rfl) (Reps.one (show Kd.M Kd.string _ _ _ (⟨#[98]⟩ : ByteArray) [.string (⟨#[98]⟩ : ByteArray)] from rfl) (Reps.none _ _))))); intro v209 w30 ho31 hb hg_ hnew_; clear hg_ hnew_; (first | rw [← Ny208.out] at ho31 | (simp only [Int.reduceToNat] at ho31; rw [← Ny208.out] at ho31)); have n0_ := Aside0.mk (Kd.R_lower ho31 (below_size (by repeat (first | (with_reducible first | exact HB.out | apply below_alloc | apply pw_below_drewN | apply below_drew1) | exact HB.out)))); have n1_ := Aside0.mk (below_step (by repeat (first | (with_reducible first | exact HB.out | apply below_alloc | apply pw_below_drewN | apply below_drew1) | exact HB.out)) hb); clear HB; have HO210 := n0_; have HB := n1_; clear n0_ n1_; clear hb ho31; obtain ⟨Ao32, co32, eo32⟩ := Kd.R_slice HO210.out; subst eo32) | ((with_reducible refine gate_callee (f := 16) rfl ?_); refine goesL_ (some 9) rfl rfl Try.func16 (by kernel_rfl) rfl #[.slice Ao32 y208.length co32] rfl (by (try simp only [List.map_toArray, List.map_cons, List.map_nil]); first | done | rfl | (simp only [List.length_drop, List.length_take]; rfl)) ?_; (with_reducible refine (feature_Format.calls k _ _ y208 t211 t212 _ ?side1 ?side2 A1.out).mono ?_); (case side1 => repeat (first | exact (Kd.R_reads' HO210.out).2.2 | (with_reducible refine Kd.C_alloc ?_ _) | (with_reducible refine Kd.C_drewN ?_ _) | (with_reducible refine Kd.C_drew ?_))); (case side2 => exact (Kd.R_reads' HO210.out).2.1); rintro e w33 ⟨rfl, hb⟩; refine ⟨_, rfl, ?_⟩; have n0_ := Aside0.mk (Kd.R_below (by (with_reducible repeat (first | apply Kd.R_alloc | apply Kd.R_drewN | apply Kd.R_drew)); exact HO210.out) hb); have n1_ := Aside0.mk (below_step (by repeat (first | (with_reducible first | exact HB.out | apply below_alloc | apply pw_below_drewN | apply below_drew1) | exact HB.out)) hb); clear HO210; clear HB; have HO210 := n0_; have HB := n1_; clear n0_ n1_; (try clear hb); (try clear hb2); (try clear hk); (try clear hi)) | ((with_reducible refine gate_callee (f := 12) rfl ?_); refine goesL_ (some 13) rfl rfl Try.func12 (by kernel_rfl) rfl #[.string (⟨#[124]⟩ : ByteArray)] rfl (by (try simp only [List.map_toArray, List.map_cons, List.map_nil]); first | done | rfl | (simp only [List.length_drop, List.length_take]; rfl)) ?_; (with_reducible refine (feature_Parse.calls k (⟨#[124]⟩ : ByteArray) t213 t214 _ A2.out).mono ?_); rintro e w34 ⟨v215, rfl, ho0, hb⟩; refine ⟨_, rfl, ?_⟩; have n0_ := Aside0.mk (Kd.R_elder' (by (with_reducible repeat (first | apply Kd.R_alloc | apply Kd.R_drewN | apply Kd.R_drew)); exact HO210.out) (Kd.R_base ho0) hb); have n1_ := Aside0.mk (Kd.R_lower (Kd.R_new' ho0 (Kd.R_lt (by (with_reducible repeat (first | apply Kd.R_alloc | apply Kd.R_drewN | apply Kd.R_drew)); exact HO210.out))) (below_size (by repeat (first | (with_reducible first | exact HB.out | apply below_alloc | apply pw_below_drewN | apply below_drew1) | exact HB.out)))); have n2_ := Aside0.mk (below_step (by repeat (first | (with_reducible first | exact HB.out | apply below_alloc | apply pw_below_drewN | apply below_drew1) | exact HB.out)) hb); clear HO210; clear HB; have HO210 := n0_; have HO216 := n1_; have HB := n2_; clear n0_ n1_ n2_; (try clear hb); (try clear hb2); (try clear hk); (try clear hi); (try clear ho0)) | ((with_reducible refine gate_callee (f := 20) rfl ?_); refine goesL_ (some 17) rfl rfl Try.func20 (by kernel_rfl) rfl #[.string (⟨#[124, 97, 124]⟩ : ByteArray), .string (⟨#[124, 98, 124]⟩ : ByteArray)] rfl (by (try simp only [List.map_toArray, List.map_cons, List.map_nil]); first | done | rfl | (simp only [List.length_drop, List.length_take]; rfl)) ?_; (with_reducible refine (feature_Union.calls k (⟨#[124, 97, 124]⟩ : ByteArray) (⟨#[124, 98, 124]⟩ : ByteArray) t217 t218 _ A3.out).mono ?_); rintro e w35 ⟨rfl, hb⟩; refine ⟨_, rfl, ?_⟩; have n0_ := Aside0.mk (Kd.R_below (by (with_reducible repeat (first | apply Kd.R_alloc | apply Kd.R_drewN | apply Kd.R_drew)); exact HO210.out) hb); have n1_ := Aside0.mk (Kd.R_below (by (with_reducible repeat (first | apply Kd.R_alloc | apply Kd.R_drewN | apply Kd.R_drew)); exact HO216.out) hb); have n2_ := Aside0.mk (below_step (by repeat (first | (with_reducible first | exact HB.out | apply below_alloc | apply pw_below_drewN | apply below_drew1) | exact HB.out)) hb); clear HO210; clear HO216; clear HB; have HO210 := n0_; have HO216 := n1_; have HB := n2_; clear n0_ n1_ n2_; (try clear hb); (try clear hb2); (try clear hk); (try clear hi); obtain ⟨Ao36, co36, eo36⟩ := Kd.R_slice HO216.out; subst eo36))
        go_ret
        exact ⟨by first | rfl | (simp [errW_none, errW_some] <;> rfl) | (simp [*, errW_none, errW_some] <;> rfl), by repeat (first | (with_reducible first | exact HB.out | apply below_alloc | apply pw_below_drewN | apply below_drew1) | exact HB.out)⟩
    · rw [if_neg c5] at H
      have c5b0 : (t212 == 0) = false := beq_eq_false_iff_ne.mpr c5
      have c5b1 : (t212 != 0) = true := bne_iff_ne.mpr c5
      obtain rfl := Option.some.inj H
      go_enter Try.func15, Try.ntmps15
      go_wp2_with (first | ((with_reducible refine gate_dst (N := 8) rfl ?_); (try (refine gate_guard (by rfl) ?_; dsimp only)); refine Kd.R_lit Kd.string _ 9 ?hg (N := 8) ?hd (xs := ([(⟨#[98]⟩ : ByteArray), (⟨#[97]⟩ : ByteArray), (⟨#[98]⟩ : ByteArray)] : List ByteArray)) (inner := [.string (⟨#[98]⟩ : ByteArray), .string (⟨#[97]⟩ : ByteArray), .string (⟨#[98]⟩ : ByteArray)]) (ok := fun _ => True) (okp := fun _ => True) ?hr ?hp (fun _ hk => hk) trivial (Below.refl _ _) (Nat.le_refl _) (by simp) ?_; (case hd => rfl); (case hg => rfl); (case hr => first | (go_simp; done) | (go_simp; rfl)); (case hp => exact (Reps.one (show Kd.M Kd.string _ _ _ (⟨#[98]⟩ : ByteArray) [.string (⟨#[98]⟩ : ByteArray)] from rfl) (Reps.one (show Kd.M Kd.string _ _ _ (⟨#[97]⟩ : ByteArray) [.string (⟨#[97]⟩ : ByteArray)] from rfl) (Reps.one (show Kd.M Kd.string _ _ _ (⟨#[98]⟩ : ByteArray) [.string (⟨#[98]⟩ : ByteArray)] from rfl) (Reps.none _ _))))); intro v209 w37 ho38 hb hg_ hnew_; clear hg_ hnew_; (first | rw [← Ny208.out] at ho38 | (simp only [Int.reduceToNat] at ho38; rw [← Ny208.out] at ho38)); have n0_ := Aside0.mk (Kd.R_lower ho38 (below_size (by repeat (first | (with_reducible first | exact HB.out | apply below_alloc | apply pw_below_drewN | apply below_drew1) | exact HB.out)))); have n1_ := Aside0.mk (below_step (by repeat (first | (with_reducible first | exact HB.out | apply below_alloc | apply pw_below_drewN | apply below_drew1) | exact HB.out)) hb); clear HB; have HO210 := n0_; have HB := n1_; clear n0_ n1_; clear hb ho38; obtain ⟨Ao39, co39, eo39⟩ := Kd.R_slice HO210.out; subst eo39) | ((with_reducible refine gate_callee (f := 16) rfl ?_); refine goesL_ (some 9) rfl rfl Try.func16 (by kernel_rfl) rfl #[.slice Ao39 y208.length co39] rfl (by (try simp only [List.map_toArray, List.map_cons, List.map_nil]); first | done | rfl | (simp only [List.length_drop, List.length_take]; rfl)) ?_; (with_reducible refine (feature_Format.calls k _ _ y208 t211 t212 _ ?side1 ?side2 A1.out).mono ?_); (case side1 => repeat (first | exact (Kd.R_reads' HO210.out).2.2 | (with_reducible refine Kd.C_alloc ?_ _) | (with_reducible refine Kd.C_drewN ?_ _) | (with_reducible refine Kd.C_drew ?_))); (case side2 => exact (Kd.R_reads' HO210.out).2.1); rintro e w40 ⟨rfl, hb⟩; refine ⟨_, rfl, ?_⟩; have n0_ := Aside0.mk (Kd.R_below (by (with_reducible repeat (first | apply Kd.R_alloc | apply Kd.R_drewN | apply Kd.R_drew)); exact HO210.out) hb); have n1_ := Aside0.mk (below_step (by repeat (first | (with_reducible first | exact HB.out | apply below_alloc | apply pw_below_drewN | apply below_drew1) | exact HB.out)) hb); clear HO210; clear HB; have HO210 := n0_; have HB := n1_; clear n0_ n1_; (try clear hb); (try clear hb2); (try clear hk); (try clear hi)) | ((with_reducible refine gate_callee (f := 12) rfl ?_); refine goesL_ (some 13) rfl rfl Try.func12 (by kernel_rfl) rfl #[.string (⟨#[124]⟩ : ByteArray)] rfl (by (try simp only [List.map_toArray, List.map_cons, List.map_nil]); first | done | rfl | (simp only [List.length_drop, List.length_take]; rfl)) ?_; (with_reducible refine (feature_Parse.calls k (⟨#[124]⟩ : ByteArray) t213 t214 _ A2.out).mono ?_); rintro e w41 ⟨v215, rfl, ho0, hb⟩; refine ⟨_, rfl, ?_⟩; have n0_ := Aside0.mk (Kd.R_elder' (by (with_reducible repeat (first | apply Kd.R_alloc | apply Kd.R_drewN | apply Kd.R_drew)); exact HO210.out) (Kd.R_base ho0) hb); have n1_ := Aside0.mk (Kd.R_lower (Kd.R_new' ho0 (Kd.R_lt (by (with_reducible repeat (first | apply Kd.R_alloc | apply Kd.R_drewN | apply Kd.R_drew)); exact HO210.out))) (below_size (by repeat (first | (with_reducible first | exact HB.out | apply below_alloc | apply pw_below_drewN | apply below_drew1) | exact HB.out)))); have n2_ := Aside0.mk (below_step (by repeat (first | (with_reducible first | exact HB.out | apply below_alloc | apply pw_below_drewN | apply below_drew1) | exact HB.out)) hb); clear HO210; clear HB; have HO210 := n0_; have HO216 := n1_; have HB := n2_; clear n0_ n1_ n2_; (try clear hb); (try clear hb2); (try clear hk); (try clear hi); (try clear ho0)) | ((with_reducible refine gate_callee (f := 20) rfl ?_); refine goesL_ (some 17) rfl rfl Try.func20 (by kernel_rfl) rfl #[.string (⟨#[124, 97, 124]⟩ : ByteArray), .string (⟨#[124, 98, 124]⟩ : ByteArray)] rfl (by (try simp only [List.map_toArray, List.map_cons, List.map_nil]); first | done | rfl | (simp only [List.length_drop, List.length_take]; rfl)) ?_; (with_reducible refine (feature_Union.calls k (⟨#[124, 97, 124]⟩ : ByteArray) (⟨#[124, 98, 124]⟩ : ByteArray) t217 t218 _ A3.out).mono ?_); rintro e w42 ⟨rfl, hb⟩; refine ⟨_, rfl, ?_⟩; have n0_ := Aside0.mk (Kd.R_below (by (with_reducible repeat (first | apply Kd.R_alloc | apply Kd.R_drewN | apply Kd.R_drew)); exact HO210.out) hb); have n1_ := Aside0.mk (Kd.R_below (by (with_reducible repeat (first | apply Kd.R_alloc | apply Kd.R_drewN | apply Kd.R_drew)); exact HO216.out) hb); have n2_ := Aside0.mk (below_step (by repeat (first | (with_reducible first | exact HB.out | apply below_alloc | apply pw_below_drewN | apply below_drew1) | exact HB.out)) hb); clear HO210; clear HO216; clear HB; have HO210 := n0_; have HO216 := n1_; have HB := n2_; clear n0_ n1_ n2_; (try clear hb); (try clear hb2); (try clear hk); (try clear hi)))
      go_ret
      exact ⟨by first | rfl | (simp [errW_none, errW_some] <;> rfl) | (simp [*, errW_none, errW_some] <;> rfl), by repeat (first | (with_reducible first | exact HB.out | apply below_alloc | apply pw_below_drewN | apply below_drew1) | exact HB.out)⟩
  · rw [if_neg c4] at H
    have c4b0 : (t211.toList == ([124, 97, 124, 98, 124] : List UInt8)) = false := beq_eq_false_iff_ne.mpr c4
    have c4b1 : (t211.toList != ([124, 97, 124, 98, 124] : List UInt8)) = true := bne_iff_ne.mpr c4
    obtain rfl := Option.some.inj H
    go_enter Try.func15, Try.ntmps15
    go_wp2_with (first | ((with_reducible refine gate_dst (N := 8) rfl ?_); (try (refine gate_guard (by rfl) ?_; dsimp only)); refine Kd.R_lit Kd.string _ 9 ?hg (N := 8) ?hd (xs := ([(⟨#[98]⟩ : ByteArray), (⟨#[97]⟩ : ByteArray), (⟨#[98]⟩ : ByteArray)] : List ByteArray)) (inner := [.string (⟨#[98]⟩ : ByteArray), .string (⟨#[97]⟩ : ByteArray), .string (⟨#[98]⟩ : ByteArray)]) (ok := fun _ => True) (okp := fun _ => True) ?hr ?hp (fun _ hk => hk) trivial (Below.refl _ _) (Nat.le_refl _) (by simp) ?_; (case hd => rfl); (case hg => rfl); (case hr => first | (go_simp; done) | (go_simp; rfl)); (case hp => exact (Reps.one (show Kd.M Kd.string _ _ _ (⟨#[98]⟩ : ByteArray) [.string (⟨#[98]⟩ : ByteArray)] from rfl) (Reps.one (show Kd.M Kd.string _ _ _ (⟨#[97]⟩ : ByteArray) [.string (⟨#[97]⟩ : ByteArray)] from rfl) (Reps.one (show Kd.M Kd.string _ _ _ (⟨#[98]⟩ : ByteArray) [.string (⟨#[98]⟩ : ByteArray)] from rfl) (Reps.none _ _))))); intro v209 w43 ho44 hb hg_ hnew_; clear hg_ hnew_; (first | rw [← Ny208.out] at ho44 | (simp only [Int.reduceToNat] at ho44; rw [← Ny208.out] at ho44)); have n0_ := Aside0.mk (Kd.R_lower ho44 (below_size (by repeat (first | (with_reducible first | exact HB.out | apply below_alloc | apply pw_below_drewN | apply below_drew1) | exact HB.out)))); have n1_ := Aside0.mk (below_step (by repeat (first | (with_reducible first | exact HB.out | apply below_alloc | apply pw_below_drewN | apply below_drew1) | exact HB.out)) hb); clear HB; have HO210 := n0_; have HB := n1_; clear n0_ n1_; clear hb ho44; obtain ⟨Ao45, co45, eo45⟩ := Kd.R_slice HO210.out; subst eo45) | ((with_reducible refine gate_callee (f := 16) rfl ?_); refine goesL_ (some 9) rfl rfl Try.func16 (by kernel_rfl) rfl #[.slice Ao45 y208.length co45] rfl (by (try simp only [List.map_toArray, List.map_cons, List.map_nil]); first | done | rfl | (simp only [List.length_drop, List.length_take]; rfl)) ?_; (with_reducible refine (feature_Format.calls k _ _ y208 t211 t212 _ ?side1 ?side2 A1.out).mono ?_); (case side1 => repeat (first | exact (Kd.R_reads' HO210.out).2.2 | (with_reducible refine Kd.C_alloc ?_ _) | (with_reducible refine Kd.C_drewN ?_ _) | (with_reducible refine Kd.C_drew ?_))); (case side2 => exact (Kd.R_reads' HO210.out).2.1); rintro e w46 ⟨rfl, hb⟩; refine ⟨_, rfl, ?_⟩; have n0_ := Aside0.mk (Kd.R_below (by (with_reducible repeat (first | apply Kd.R_alloc | apply Kd.R_drewN | apply Kd.R_drew)); exact HO210.out) hb); have n1_ := Aside0.mk (below_step (by repeat (first | (with_reducible first | exact HB.out | apply below_alloc | apply pw_below_drewN | apply below_drew1) | exact HB.out)) hb); clear HO210; clear HB; have HO210 := n0_; have HB := n1_; clear n0_ n1_; (try clear hb); (try clear hb2); (try clear hk); (try clear hi)) | ((with_reducible refine gate_callee (f := 12) rfl ?_); refine goesL_ (some 13) rfl rfl Try.func12 (by kernel_rfl) rfl #[.string (⟨#[124]⟩ : ByteArray)] rfl (by (try simp only [List.map_toArray, List.map_cons, List.map_nil]); first | done | rfl | (simp only [List.length_drop, List.length_take]; rfl)) ?_; (with_reducible refine (feature_Parse.calls k (⟨#[124]⟩ : ByteArray) t213 t214 _ A2.out).mono ?_); rintro e w47 ⟨v215, rfl, ho0, hb⟩; refine ⟨_, rfl, ?_⟩; have n0_ := Aside0.mk (Kd.R_elder' (by (with_reducible repeat (first | apply Kd.R_alloc | apply Kd.R_drewN | apply Kd.R_drew)); exact HO210.out) (Kd.R_base ho0) hb); have n1_ := Aside0.mk (Kd.R_lower (Kd.R_new' ho0 (Kd.R_lt (by (with_reducible repeat (first | apply Kd.R_alloc | apply Kd.R_drewN | apply Kd.R_drew)); exact HO210.out))) (below_size (by repeat (first | (with_reducible first | exact HB.out | apply below_alloc | apply pw_below_drewN | apply below_drew1) | exact HB.out)))); have n2_ := Aside0.mk (below_step (by repeat (first | (with_reducible first | exact HB.out | apply below_alloc | apply pw_below_drewN | apply below_drew1) | exact HB.out)) hb); clear HO210; clear HB; have HO210 := n0_; have HO216 := n1_; have HB := n2_; clear n0_ n1_ n2_; (try clear hb); (try clear hb2); (try clear hk); (try clear hi); (try clear ho0)) | ((with_reducible refine gate_callee (f := 20) rfl ?_); refine goesL_ (some 17) rfl rfl Try.func20 (by kernel_rfl) rfl #[.string (⟨#[124, 97, 124]⟩ : ByteArray), .string (⟨#[124, 98, 124]⟩ : ByteArray)] rfl (by (try simp only [List.map_toArray, List.map_cons, List.map_nil]); first | done | rfl | (simp only [List.length_drop, List.length_take]; rfl)) ?_; (with_reducible refine (feature_Union.calls k (⟨#[124, 97, 124]⟩ : ByteArray) (⟨#[124, 98, 124]⟩ : ByteArray) t217 t218 _ A3.out).mono ?_); rintro e w48 ⟨rfl, hb⟩; refine ⟨_, rfl, ?_⟩; have n0_ := Aside0.mk (Kd.R_below (by (with_reducible repeat (first | apply Kd.R_alloc | apply Kd.R_drewN | apply Kd.R_drew)); exact HO210.out) hb); have n1_ := Aside0.mk (Kd.R_below (by (with_reducible repeat (first | apply Kd.R_alloc | apply Kd.R_drewN | apply Kd.R_drew)); exact HO216.out) hb); have n2_ := Aside0.mk (below_step (by repeat (first | (with_reducible first | exact HB.out | apply below_alloc | apply pw_below_drewN | apply below_drew1) | exact HB.out)) hb); clear HO210; clear HO216; clear HB; have HO210 := n0_; have HO216 := n1_; have HB := n2_; clear n0_ n1_ n2_; (try clear hb); (try clear hb2); (try clear hk); (try clear hi)))
    go_ret
    exact ⟨by first | rfl | (simp [errW_none, errW_some] <;> rfl) | (simp [*, errW_none, errW_some] <;> rfl), by repeat (first | (with_reducible first | exact HB.out | apply below_alloc | apply pw_below_drewN | apply below_drew1) | exact HB.out)⟩

end Go.Proofs.Ytcgglamgemgeiaa.Q
/- FCorporalaw05FeatureParses -/
namespace Go.Proofs.Ytcgglamgemgeiaa.Q
open Go.RowKit Go.Proofs.YtcgglamgemgeiaaW.PrintWords Go.Proofs.YtcgglamgemgeiaaW.PrintLast Go.Proofs.YtcgglamgemgeiaaW.PrintMore
attribute [local go_sem] max2_int min2_int max_two min_two max_three min_three max_four min_four   -- for this text's walks alone
set_option linter.unusedVariables false
set_option linter.unusedSimpArgs false

/-! ### corporalaw05_FeatureParses: function 3 -/
def corporalaw05_FeatureParses.f (k : Nat) (a0 : ByteArray) : Option (Bool) := (corporalaw05_long.f k (([a0] : List ByteArray))).bind fun t222 => (if t222 = true then (some true) else ((feature_Parse.f k a0).bind fun bt223 => ((corporaref05_Parse.f k a0).bind fun bt227 => ((corporalaw05_equal.f k bt223.1 bt227.1).bind fun t231 => (if t231 = true then (if bt223.2 = bt227.2 then ((corporalaw05_awake.f k).bind fun t232 => (some t232)) else (some false)) else (some false))))))
theorem corporalaw05_FeatureParses.mono : ∀ a0 k, LeO (corporalaw05_FeatureParses.f k a0) (corporalaw05_FeatureParses.f (k + 1) a0) := by
  intro a0 k
  unfold corporalaw05_FeatureParses.f
  repeat' first
      | (with_reducible exact corporalaw05_awake.mono _)
      | (with_reducible exact corporalaw05_equal.mono _ _ _)
      | (with_reducible exact corporalaw05_long.mono _ _)
      | (with_reducible exact corporaref05_Parse.mono _ _)
      | (with_reducible exact feature_Parse.mono _ _)
      | (with_reducible exact LeO.refl _)
      | (with_reducible exact LeO.none _)
      | (with_reducible refine LeO.ite ?_ ?_)
      | (with_reducible refine LeO.bind ?_ (fun _ => ?_))
      | exact corporalaw05_awake.mono _
      | exact corporalaw05_equal.mono _ _ _
      | exact corporalaw05_long.mono _ _
      | exact corporaref05_Parse.mono _ _
      | exact feature_Parse.mono _ _
      | exact LeO.none _
      | refine LeO.ite ?_ ?_
      | refine LeO.bind ?_ (fun _ => ?_)
set_option maxHeartbeats 8000000 in
set_option maxRecDepth 100000 in
theorem corporalaw05_FeatureParses.calls (k : Nat) (a0 : ByteArray) (r : Bool) (w : World) (h : corporalaw05_FeatureParses.f k a0 = some r) :
    Calls Try.prog 3 #[.string a0] w fun e w' => e = .returned (.bool r) ∧ Below w.heap.size w w' := by
  have HB := Aside0.mk (Below.refl w.heap.size w)
  have H : ((corporalaw05_long.f k (([a0] : List ByteArray))).bind fun t222 => (if t222 = true then (some true) else ((feature_Parse.f k a0).bind fun bt223 => ((corporaref05_Parse.f k a0).bind fun bt227 => ((corporalaw05_equal.f k bt223.1 bt227.1).bind fun t231 => (if t231 = true then (if bt223.2 = bt227.2 then ((corporalaw05_awake.f k).bind fun t232 => (some t232)) else (some false)) else (some false))))))) = some r := h
  clear h
  obtain ⟨y219, hy219⟩ : ∃ y_ : List ByteArray, y_ = (([a0] : List ByteArray)) := ⟨_, rfl⟩
  replace H : ((corporalaw05_long.f k y219).bind fun t222 => (if t222 = true then (some true) else ((feature_Parse.f k a0).bind fun bt223 => ((corporaref05_Parse.f k a0).bind fun bt227 => ((corporalaw05_equal.f k bt223.1 bt227.1).bind fun t231 => (if t231 = true then (if bt223.2 = bt227.2 then ((corporalaw05_awake.f k).bind fun t232 => (some t232)) else (some false)) else (some false))))))) = some r := by first | (rw [hy219]; with_reducible exact H) | (have H2_ := (Option.bind_some _ _).symm.trans H; rw [hy219]; with_reducible exact H2_) | (have H2_ := (Option.bind_some _ _).symm.trans H; with_reducible exact H2_) | with_reducible exact H | (rw [hy219]; exact H) | exact H
  have Ny219 := Aside0.mk hy219
  clear hy219
  replace H := Option.bind_eq_some_iff.mp H
  obtain ⟨t222, A20, H⟩ := H
  replace H : (if t222 = true then (some true) else ((feature_Parse.f k a0).bind fun bt223 => ((corporaref05_Parse.f k a0).bind fun bt227 => ((corporalaw05_equal.f k bt223.1 bt227.1).bind fun t231 => (if t231 = true then (if bt223.2 = bt227.2 then ((corporalaw05_awake.f k).bind fun t232 => (some t232)) else (some false)) else (some false)))))) = some r := H
  have A2 := Aside0.mk A20
  clear A20
  by_cases c3 : t222 = true
  · subst c3
    have H1 : (some true) = some r := by rw [if_pos rfl] at H; exact H
    clear H
    have H := H1
    clear H1
    obtain rfl := Option.some.inj H
    go_enter Try.func3, Try.ntmps3
    go_wp2_with (first | ((with_reducible refine gate_dst (N := 8) rfl ?_); refine Kd.R_lit Kd.string _ 9 ?hg (N := 8) ?hd (xs := ([a0] : List ByteArray)) (inner := [.string a0]) (ok := fun _ => True) (okp := fun _ => True) ?hr ?hp (fun _ hk => hk) trivial (Below.refl _ _) (Nat.le_refl _) (by simp) ?_; (case hd => rfl); (case hg => rfl); (case hr => first | (go_simp; done) | (go_simp; rfl)); (case hp => exact (Reps.one (show Kd.M Kd.string _ _ _ a0 [.string a0] from rfl) (Reps.none _ _))); intro v220 w4 ho5 hb hg_ hnew_; clear hg_ hnew_; (first | rw [← Ny219.out] at ho5 | (simp only [Int.reduceToNat] at ho5; rw [← Ny219.out] at ho5)); have n0_ := Aside0.mk (Kd.R_lower ho5 (below_size (by repeat (first | (with_reducible first | exact HB.out | apply below_alloc | apply pw_below_drewN | apply below_drew1) | exact HB.out)))); have n1_ := Aside0.mk (below_step (by repeat (first | (with_reducible first | exact HB.out | apply below_alloc | apply pw_below_drewN | apply below_drew1) | exact HB.out)) hb); clear HB; have HO221 := n0_; have HB := n1_; clear n0_ n1_; clear hb ho5; obtain ⟨Ao6, co6, eo6⟩ := Kd.R_slice HO221.out; subst eo6) | ((with_reducible refine gate_callee (f := 11) rfl ?_); refine goesL_ (some 9) rfl rfl Try.func11 (by kernel_rfl) rfl #[.slice Ao6 y219.length co6] rfl (by (try simp only [List.map_toArray, List.map_cons, List.map_nil]); first | done | rfl | (simp only [List.length_drop, List.length_take]; rfl)) ?_; (with_reducible refine (corporalaw05_long.calls k _ _ y219 true _ ?side1 ?side2 A2.out).mono ?_); (case side1 => repeat (first | exact (Kd.R_reads' HO221.out).2.2 | (with_reducible refine Kd.C_alloc ?_ _) | (with_reducible refine Kd.C_drewN ?_ _) | (with_reducible refine Kd.C_drew ?_))); (case side2 => exact (Kd.R_reads' HO221.out).2.1); rintro e w' ⟨rfl, ⟨nd, rfl⟩⟩; refine ⟨_, rfl, ?_⟩))
    go_ret
    exact ⟨by first | rfl | (simp [errW_none, errW_some] <;> rfl) | (simp [*, errW_none, errW_some] <;> rfl), by repeat (first | (with_reducible first | exact HB.out | apply below_alloc | apply pw_below_drewN | apply below_drew1) | exact HB.out)⟩
  · replace c3 := Bool.eq_false_iff.mpr c3
    subst c3
    have H1 : ((feature_Parse.f k a0).bind fun bt223 => ((corporaref05_Parse.f k a0).bind fun bt227 => ((corporalaw05_equal.f k bt223.1 bt227.1).bind fun t231 => (if t231 = true then (if bt223.2 = bt227.2 then ((corporalaw05_awake.f k).bind fun t232 => (some t232)) else (some false)) else (some false))))) = some r := by rw [if_neg (show ¬ (false = true) by decide)] at H; exact H
    clear H
    have H := H1
    clear H1
    replace H := Option.bind_eq_some_iff.mp H
    obtain ⟨⟨t223, t224⟩, A70, H⟩ := H
    replace H : ((corporaref05_Parse.f k a0).bind fun bt227 => ((corporalaw05_equal.f k t223 bt227.1).bind fun t231 => (if t231 = true then (if t224 = bt227.2 then ((corporalaw05_awake.f k).bind fun t232 => (some t232)) else (some false)) else (some false)))) = some r := H
    have A7 := Aside0.mk A70
    clear A70
    replace H := Option.bind_eq_some_iff.mp H
    obtain ⟨⟨t227, t228⟩, A80, H⟩ := H
    replace H : ((corporalaw05_equal.f k t223 t227).bind fun t231 => (if t231 = true then (if t224 = t228 then ((corporalaw05_awake.f k).bind fun t232 => (some t232)) else (some false)) else (some false))) = some r := H
    have A8 := Aside0.mk A80
    clear A80
    replace H := Option.bind_eq_some_iff.mp H
    obtain ⟨t231, A90, H⟩ := H
    replace H : (if t231 = true then (if t224 = t228 then ((corporalaw05_awake.f k).bind fun t232 => (some t232)) else (some false)) else (some false)) = some r := H
    have A9 := Aside0.mk A90
    clear A90
    by_cases c10 : t231 = true
    · subst c10
      have H1 : (if t224 = t228 then ((corporalaw05_awake.f k).bind fun t232 => (some t232)) else (some false)) = some r := by rw [if_pos rfl] at H; exact H
      clear H
      have H := H1
      clear H1
      by_cases c11 : t224 = t228
      · rw [if_pos c11] at H
        have c11b0 : (t224 == t228) = true := beq_iff_eq.mpr c11
        have c11b1 : (t224 != t228) = false := bne_eq_false_iff_eq.mpr c11
        clear c11
        replace H := Option.bind_eq_some_iff.mp H
        obtain ⟨t232, A120, H⟩ := H
        replace H : (some t232) = some r := H
        have A12 := Aside0.mk A120
        clear A120
        obtain rfl := Option.some.inj H
        go_enter Try.func3, Try.ntmps3
        go_wp2_with (first | ((with_reducible refine gate_dst (N := 8) rfl ?_); refine Kd.R_lit Kd.string _ 9 ?hg (N := 8) ?hd (xs := ([a0] : List ByteArray)) (inner := [.string a0]) (ok := fun _ => True) (okp := fun _ => True) ?hr ?hp (fun _ hk => hk) trivial (Below.refl _ _) (Nat.le_refl _) (by simp) ?_; (case hd => rfl); (case hg => rfl); (case hr => first | (go_simp; done) | (go_simp; rfl)); (case hp => exact (Reps.one (show Kd.M Kd.string _ _ _ a0 [.string a0] from rfl) (Reps.none _ _))); intro v220 w13 ho14 hb hg_ hnew_; clear hg_ hnew_; (first | rw [← Ny219.out] at ho14 | (simp only [Int.reduceToNat] at ho14; rw [← Ny219.out] at ho14)); have n0_ := Aside0.mk (Kd.R_lower ho14 (below_size (by repeat (first | (with_reducible first | exact HB.out | apply below_alloc | apply pw_below_drewN | apply below_drew1) | exact HB.out)))); have n1_ := Aside0.mk (below_step (by repeat (first | (with_reducible first | exact HB.out | apply below_alloc | apply pw_below_drewN | apply below_drew1) | exact HB.out)) hb); clear HB; have HO221 := n0_; have HB := n1_; clear n0_ n1_; clear hb ho14; obtain ⟨Ao15, co15, eo15⟩ := Kd.R_slice HO221.out; subst eo15) | ((with_reducible refine gate_callee (f := 11) rfl ?_); refine goesL_ (some 9) rfl rfl Try.func11 (by kernel_rfl) rfl #[.slice Ao15 y219.length co15] rfl (by (try simp only [List.map_toArray, List.map_cons, List.map_nil]); first | done | rfl | (simp only [List.length_drop, List.length_take]; rfl)) ?_; (with_reducible refine (corporalaw05_long.calls k _ _ y219 false _ ?side1 ?side2 A2.out).mono ?_); (case side1 => repeat (first | exact (Kd.R_reads' HO221.out).2.2 | (with_reducible refine Kd.C_alloc ?_ _) | (with_reducible refine Kd.C_drewN ?_ _) | (with_reducible refine Kd.C_drew ?_))); (case side2 => exact (Kd.R_reads' HO221.out).2.1); rintro e w' ⟨rfl, ⟨nd, rfl⟩⟩; refine ⟨_, rfl, ?_⟩) | ((with_reducible refine gate_callee (f := 12) rfl ?_); refine goesL_ (some 12) rfl rfl Try.func12 (by kernel_rfl) rfl #[.string a0] rfl (by (try simp only [List.map_toArray, List.map_cons, List.map_nil]); first | done | rfl | (simp only [List.length_drop, List.length_take]; rfl)) ?_; (with_reducible refine (feature_Parse.calls k a0 t223 t224 _ A7.out).mono ?_); rintro e w16 ⟨v225, rfl, ho0, hb⟩; refine ⟨_, rfl, ?_⟩; have n0_ := Aside0.mk (Kd.R_elder' (by (with_reducible repeat (first | apply Kd.R_alloc | apply Kd.R_drewN | apply Kd.R_drew)); exact HO221.out) (Kd.R_base ho0) hb); have n1_ := Aside0.mk (Kd.R_lower (Kd.R_new' ho0 (Kd.R_lt (by (with_reducible repeat (first | apply Kd.R_alloc | apply Kd.R_drewN | apply Kd.R_drew)); exact HO221.out))) (below_size (by repeat (first | (with_reducible first | exact HB.out | apply below_alloc | apply pw_below_drewN | apply below_drew1) | exact HB.out)))); have n2_ := Aside0.mk (below_step (by repeat (first | (with_reducible first | exact HB.out | apply below_alloc | apply pw_below_drewN | apply below_drew1) | exact HB.out)) hb); clear HO221; clear HB; have HO221 := n0_; have HO226 := n1_; have HB := n2_; clear n0_ n1_ n2_; (try clear hb); (try clear hb2); (try clear hk); (try clear hi); (try clear ho0)) | ((with_reducible refine gate_callee (f := 13) rfl ?_); refine goesL_ (some 17) rfl rfl Try.func13 (by kernel_rfl) rfl #[.string a0] rfl (by (try simp only [List.map_toArray, List.map_cons, List.map_nil]); first | done | rfl | (simp only [List.length_drop, List.length_take]; rfl)) ?_; (with_reducible refine (corporaref05_Parse.calls k a0 t227 t228 _ A8.out).mono ?_); rintro e w17 ⟨v229, rfl, ho0, hb⟩; refine ⟨_, rfl, ?_⟩; have n0_ := Aside0.mk (Kd.R_elder' (by (with_reducible repeat (first | apply Kd.R_alloc | apply Kd.R_drewN | apply Kd.R_drew)); exact HO221.out) (Kd.R_base ho0) hb); have n1_ := Aside0.mk (Kd.R_elder' (by (with_reducible repeat (first | apply Kd.R_alloc | apply Kd.R_drewN | apply Kd.R_drew)); exact HO226.out) (Kd.R_base ho0) hb); have n2_ := Aside0.mk (Kd.R_lower (Kd.R_new' (Kd.R_new' ho0 (Kd.R_lt (by (with_reducible repeat (first | apply Kd.R_alloc | apply Kd.R_drewN | apply Kd.R_drew)); exact HO221.out))) (Kd.R_lt (by (with_reducible repeat (first | apply Kd.R_alloc | apply Kd.R_drewN | apply Kd.R_drew)); exact HO226.out))) (below_size (by repeat (first | (with_reducible first | exact HB.out | apply below_alloc | apply pw_below_drewN | apply below_drew1) | exact HB.out)))); have n3_ := Aside0.mk (below_step (by repeat (first | (with_reducible first | exact HB.out | apply below_alloc | apply pw_below_drewN | apply below_drew1) | exact HB.out)) hb); clear HO221; clear HO226; clear HB; have HO221 := n0_; have HO226 := n1_; have HO230 := n2_; have HB := n3_; clear n0_ n1_ n2_ n3_; (try clear hb); (try clear hb2); (try clear hk); (try clear hi); (try clear ho0); obtain ⟨Ao18, co18, eo18⟩ := Kd.R_slice HO226.out; subst eo18; obtain ⟨Ao19, co19, eo19⟩ := Kd.R_slice HO230.out; subst eo19) | ((with_reducible refine gate_callee (f := 14) rfl ?_); refine goesL_ (some 22) rfl rfl Try.func14 (by kernel_rfl) rfl #[.slice Ao18 t223.length co18, .slice Ao19 t227.length co19] rfl (by (try simp only [List.map_toArray, List.map_cons, List.map_nil]); first | done | rfl | (simp only [List.length_drop, List.length_take]; rfl)) ?_; (with_reducible refine (corporalaw05_equal.calls k _ _ t223 _ _ t227 true _ ?side1 ?side2 ?side3 ?side4 A9.out).mono ?_); (case side1 => repeat (first | exact (Kd.R_reads' HO226.out).2.2 | (with_reducible refine Kd.C_alloc ?_ _) | (with_reducible refine Kd.C_drewN ?_ _) | (with_reducible refine Kd.C_drew ?_))); (case side2 => exact (Kd.R_reads' HO226.out).2.1); (case side3 => repeat (first | exact (Kd.R_reads' HO230.out).2.2 | (with_reducible refine Kd.C_alloc ?_ _) | (with_reducible refine Kd.C_drewN ?_ _) | (with_reducible refine Kd.C_drew ?_))); (case side4 => exact (Kd.R_reads' HO230.out).2.1); rintro e w' ⟨rfl, ⟨nd, rfl⟩⟩; refine ⟨_, rfl, ?_⟩) | (go_at_call 15; (with_reducible refine (corporalaw05_awake.calls k  t232 _ A12.out).mono ?_); rintro e w20 ⟨rfl, hb⟩; have n0_ := Aside0.mk (Kd.R_below (by (with_reducible repeat (first | apply Kd.R_alloc | apply Kd.R_drewN | apply Kd.R_drew)); exact HO221.out) hb); have n1_ := Aside0.mk (Kd.R_below (by (with_reducible repeat (first | apply Kd.R_alloc | apply Kd.R_drewN | apply Kd.R_drew)); exact HO226.out) hb); have n2_ := Aside0.mk (Kd.R_below (by (with_reducible repeat (first | apply Kd.R_alloc | apply Kd.R_drewN | apply Kd.R_drew)); exact HO230.out) hb); have n3_ := Aside0.mk (below_step (by repeat (first | (with_reducible first | exact HB.out | apply below_alloc | apply pw_below_drewN | apply below_drew1) | exact HB.out)) hb); clear HO221; clear HO226; clear HO230; clear HB; have HO221 := n0_; have HO226 := n1_; have HO230 := n2_; have HB := n3_; clear n0_ n1_ n2_ n3_; (try clear hb); (try clear hb2); (try clear hk); (try clear hi)))
        go_ret
        exact ⟨by first | rfl | (simp [errW_none, errW_some] <;> rfl) | (simp [*, errW_none, errW_some] <;> rfl), by repeat (first | (with_reducible first | exact HB.out | apply below_alloc | apply pw_below_drewN | apply below_drew1) | exact HB.out)⟩
      · rw [if_neg c11] at H
        have c11b0 : (t224 == t228) = false := beq_eq_false_iff_ne.mpr c11
        have c11b1 : (t224 != t228) = true := bne_iff_ne.mpr c11
        obtain rfl := Option.some.inj H
        go_enter Try.func3, Try.ntmps3
        go_wp2_with (first | ((with_reducible refine gate_dst (N := 8) rfl ?_); refine Kd.R_lit Kd.string _ 9 ?hg (N := 8) ?hd (xs := ([a0] : List ByteArray)) (inner := [.string a0]) (ok := fun _ => True) (okp := fun _ => True) ?hr ?hp (fun _ hk => hk) trivial (Below.refl _ _) (Nat.le_refl _) (by simp) ?_; (case hd => rfl); (case hg => rfl); (case hr => first | (go_simp; done) | (go_simp; rfl)); (case hp => exact (Reps.one (show Kd.M Kd.string _ _ _ a0 [.string a0] from rfl) (Reps.none _ _))); intro v220 w21 ho22 hb hg_ hnew_; clear hg_ hnew_; (first | rw [← Ny219.out] at ho22 | (simp only [Int.reduceToNat] at ho22; rw [← Ny219.out] at ho22)); have n0_ := Aside0.mk (Kd.R_lower ho22 (below_size (by repeat (first | (with_reducible first | exact HB.out | apply below_alloc | apply pw_below_drewN | apply below_drew1) | exact HB.out)))); have n1_ := Aside0.mk (below_step (by repeat (first | (with_reducible first | exact HB.out | apply below_alloc | apply pw_below_drewN | apply below_drew1) | exact HB.out)) hb); clear HB; have HO221 := n0_; have HB := n1_; clear n0_ n1_; clear hb ho22; obtain ⟨Ao23, co23, eo23⟩ := Kd.R_slice HO221.out; subst eo23) | ((with_reducible refine gate_callee (f := 11) rfl ?_); refine goesL_ (some 9) rfl rfl Try.func11 (by kernel_rfl) rfl #[.slice Ao23 y219.length co23] rfl (by (try simp only [List.map_toArray, List.map_cons, List.map_nil]); first | done | rfl | (simp only [List.length_drop, List.length_take]; rfl)) ?_; (with_reducible refine (corporalaw05_long.calls k _ _ y219 false _ ?side1 ?side2 A2.out).mono ?_); (case side1 => repeat (first | exact (Kd.R_reads' HO221.out).2.2 | (with_reducible refine Kd.C_alloc ?_ _) | (with_reducible refine Kd.C_drewN ?_ _) | (with_reducible refine Kd.C_drew ?_))); (case side2 => exact (Kd.R_reads' HO221.out).2.1); rintro e w' ⟨rfl, ⟨nd, rfl⟩⟩; refine ⟨_, rfl, ?_⟩) | ((with_reducible refine gate_callee (f := 12) rfl ?_); refine goesL_ (some 12) rfl rfl Try.func12 (by kernel_rfl) rfl #[.string a0] rfl (by (try simp only [List.map_toArray, List.map_cons, List.map_nil]); first | done | rfl | (simp only [List.length_drop, List.length_take]; rfl)) ?_; (with_reducible refine (feature_Parse.calls k a0 t223 t224 _ A7.out).mono ?_); rintro e w24 ⟨v225, rfl, ho0, hb⟩; refine ⟨_, rfl, ?_⟩; have n0_ := Aside0.mk (Kd.R_elder' (by (with_reducible repeat (first | apply Kd.R_alloc | apply Kd.R_drewN | apply Kd.R_drew)); exact HO221.out) (Kd.R_base ho0) hb); have n1_ := Aside0.mk (Kd.R_lower (Kd.R_new' ho0 (Kd.R_lt (by (with_reducible repeat (first | apply Kd.R_alloc | apply Kd.R_drewN | apply Kd.R_drew)); exact HO221.out))) (below_size (by repeat (first | (with_reducible first | exact HB.out | apply below_alloc | apply pw_below_drewN | apply below_drew1) | exact HB.out)))); have n2_ := Aside0.mk (below_step (by repeat (first | (with_reducible first | exact HB.out | apply below_alloc | apply pw_below_drewN | apply below_drew1) | exact HB.out)) hb); clear HO221; clear HB; have HO221 := n0_; have HO226 := n1_; have HB := n2_; clear n0_ n1_ n2_; (try clear hb); (try clear hb2); (try clear hk); (try clear hi); (try clear ho0)) | ((with_reducible refine gate_callee (f := 13) rfl ?_); refine goesL_ (some 17) rfl rfl Try.func13 (by kernel_rfl) rfl #[.string a0] rfl (by (try simp only [List.map_toArray, List.map_cons, List.map_nil]); first | done | rfl | (simp only [List.length_drop, List.length_take]; rfl)) ?_; (with_reducible refine (corporaref05_Parse.calls k a0 t227 t228 _ A8.out).mono ?_); rintro e w25 ⟨v229, rfl, ho0, hb⟩; refine ⟨_, rfl, ?_⟩; have n0_ := Aside0.mk (Kd.R_elder' (by (with_reducible repeat (first | apply Kd.R_alloc | apply Kd.R_drewN | apply Kd.R_drew)); exact HO221.out) (Kd.R_base ho0) hb); have n1_ := Aside0.mk (Kd.R_elder' (by (with_reducible repeat (first | apply Kd.R_alloc | apply Kd.R_drewN | apply Kd.R_drew)); exact HO226.out) (Kd.R_base ho0) hb); have n2_ := Aside0.mk (Kd.R_lower (Kd.R_new' (Kd.R_new' ho0 (Kd.R_lt (by (with_reducible repeat (first | apply Kd.R_alloc | apply Kd.R_drewN | apply Kd.R_drew)); exact HO221.out))) (Kd.R_lt (by (with_reducible repeat (first | apply Kd.R_alloc | apply Kd.R_drewN | apply Kd.R_drew)); exact HO226.out))) (below_size (by repeat (first | (with_reducible first | exact HB.out | apply below_alloc | apply pw_below_drewN | apply below_drew1) | exact HB.out)))); have n3_ := Aside0.mk (below_step (by repeat (first | (with_reducible first | exact HB.out | apply below_alloc | apply pw_below_drewN | apply below_drew1) | exact HB.out)) hb); clear HO221; clear HO226; clear HB; have HO221 := n0_; have HO226 := n1_; have HO230 := n2_; have HB := n3_; clear n0_ n1_ n2_ n3_; (try clear hb); (try clear hb2); (try clear hk); (try clear hi); (try clear ho0); obtain ⟨Ao26, co26, eo26⟩ := Kd.R_slice HO226.out; subst eo26; obtain ⟨Ao27, co27, eo27⟩ := Kd.R_slice HO230.out; subst eo27) | ((with_reducible refine gate_callee (f := 14) rfl ?_); refine goesL_ (some 22) rfl rfl Try.func14 (by kernel_rfl) rfl #[.slice Ao26 t223.length co26, .slice Ao27 t227.length co27] rfl (by (try simp only [List.map_toArray, List.map_cons, List.map_nil]); first | done | rfl | (simp only [List.length_drop, List.length_take]; rfl)) ?_; (with_reducible refine (corporalaw05_equal.calls k _ _ t223 _ _ t227 true _ ?side1 ?side2 ?side3 ?side4 A9.out).mono ?_); (case side1 => repeat (first | exact (Kd.R_reads' HO226.out).2.2 | (with_reducible refine Kd.C_alloc ?_ _) | (with_reducible refine Kd.C_drewN ?_ _) | (with_reducible refine Kd.C_drew ?_))); (case side2 => exact (Kd.R_reads' HO226.out).2.1); (case side3 => repeat (first | exact (Kd.R_reads' HO230.out).2.2 | (with_reducible refine Kd.C_alloc ?_ _) | (with_reducible refine Kd.C_drewN ?_ _) | (with_reducible refine Kd.C_drew ?_))); (case side4 => exact (Kd.R_reads' HO230.out).2.1); rintro e w' ⟨rfl, ⟨nd, rfl⟩⟩; refine ⟨_, rfl, ?_⟩))
        go_ret
        exact ⟨by first | rfl | (simp [errW_none, errW_some] <;> rfl) | (simp [*, errW_none, errW_some] <;> rfl), by repeat (first | (with_reducible first | exact HB.out | apply below_alloc | apply pw_below_drewN | apply below_drew1) | exact HB.out)⟩
    · replace c10 := Bool.eq_false_iff.mpr c10
      subst c10
      have H1 : (some false) = some r := by rw [if_neg (show ¬ (false = true) by decide)] at H; exact H
      clear H
      have H := H1
      clear H1
      obtain rfl := Option.some.inj H
      go_enter Try.func3, Try.ntmps3
      go_wp2_with (first | ((with_reducible refine gate_dst (N := 8) rfl ?_); refine Kd.R_lit Kd.string _ 9 ?hg (N := 8) ?hd (xs := ([a0] : List ByteArray)) (inner := [.string a0]) (ok := fun _ => True) (okp := fun _ => True) ?hr ?hp (fun _ hk => hk) trivial (Below.refl _ _) (Nat.le_refl _) (by simp) ?_; (case hd => rfl); (case hg => rfl); (case hr => first | (go_simp; done) | (go_simp; rfl)); (case hp => exact (Reps.one (show Kd.M Kd.string _ _ _ a0 [.string a0] from rfl) (Reps.none _ _))); intro v220 w28 ho29 hb hg_ hnew_; clear hg_ hnew_; (first | rw [← Ny219.out] at ho29 | (simp only [Int.reduceToNat] at ho29; rw [← Ny219.out] at ho29)); have n0_ := Aside0.mk (Kd.R_lower ho29 (below_size (by repeat (first | (with_reducible first | exact HB.out | apply below_alloc | apply pw_below_drewN | apply below_drew1) | exact HB.out)))); have n1_ := Aside0.mk (below_step (by repeat (first | (with_reducible first | exact HB.out | apply below_alloc | apply pw_below_drewN | apply below_drew1) | exact HB.out)) hb); clear HB; have HO221 := n0_; have HB := n1_; clear n0_ n1_; clear hb ho29; obtain ⟨Ao30, co30, eo30⟩ := Kd.R_slice HO221.out; subst eo30) | ((with_reducible refine gate_callee (f := 11) rfl ?_); refine goesL_ (some 9) rfl rfl Try.func11 (by kernel_rfl) rfl #[.slice Ao30 y219.length co30] rfl (by (try simp only [List.map_toArray, List.map_cons, List.map_nil]); first | done | rfl | (simp only [List.length_drop, List.length_take]; rfl)) ?_; (with_reducible refine (corporalaw05_long.calls k _ _ y219 false _ ?side1 ?side2 A2.out).mono ?_); (case side1 => repeat (first | exact (Kd.R_reads' HO221.out).2.2 | (with_reducible refine Kd.C_alloc ?_ _) | (with_reducible refine Kd.C_drewN ?_ _) | (with_reducible refine Kd.C_drew ?_))); (case side2 => exact (Kd.R_reads' HO221.out).2.1); rintro e w' ⟨rfl, ⟨nd, rfl⟩⟩; refine ⟨_, rfl, ?_⟩) | ((with_reducible refine gate_callee (f := 12) rfl ?_); refine goesL_ (some 12) rfl rfl Try.func12 (by kernel_rfl) rfl #[.string a0] rfl (by (try simp only [List.map_toArray, List.map_cons, List.map_nil]); first | done | rfl | (simp only [List.length_drop, List.length_take]; rfl)) ?_; (with_reducible refine (feature_Parse.calls k a0 t223 t224 _ A7.out).mono ?_); rintro e w31 ⟨v225, rfl, ho0, hb⟩; refine ⟨_, rfl, ?_⟩; have n0_ := Aside0.mk (Kd.R_elder' (by (with_reducible repeat (first | apply Kd.R_alloc | apply Kd.R_drewN | apply Kd.R_drew)); exact HO221.out) (Kd.R_base ho0) hb); have n1_ := Aside0.mk (Kd.R_lower (Kd.R_new' ho0 (Kd.R_lt (by (with_reducible repeat (first | apply Kd.R_alloc | apply Kd.R_drewN | apply Kd.R_drew)); exact HO221.out))) (below_size (by repeat (first | (with_reducible first | exact HB.out | apply below_alloc | apply pw_below_drewN | apply below_drew1) | exact HB.out)))); have n2_ := Aside0.mk (below_step (by repeat (first | (with_reducible first | exact HB.out | apply below_alloc | apply pw_below_drewN | apply below_drew1) | exact HB.out)) hb); clear HO221; clear HB; have HO221 := n0_; have HO226 := n1_; have HB := n2_; clear n0_ n1_ n2_; (try clear hb); (try clear hb2); (try clear hk); (try clear hi); (try clear ho0)) | ((with_reducible refine gate_callee (f := 13) rfl ?_); refine goesL_ (some 17) rfl rfl Try.func13 (by kernel_rfl) rfl #[.string a0] rfl (by (try simp only [List.map_toArray, List.map_cons, List.map_nil]); first | done | rfl | (simp only [List.length_drop, List.length_take]; rfl)) ?_; (with_reducible refine (corporaref05_Parse.calls k a0 t227 t228 _ A8.out).mono ?_); rintro e w32 ⟨v229, rfl, ho0, hb⟩; refine ⟨_, rfl, ?_⟩; have n0_ := Aside0.mk (Kd.R_elder' (by (with_reducible repeat (first | apply Kd.R_alloc | apply Kd.R_drewN | apply Kd.R_drew)); exact HO221.out) (Kd.R_base ho0) hb); have n1_ := Aside0.mk (Kd.R_elder' (by (with_reducible repeat (first | apply Kd.R_alloc | apply Kd.R_drewN | apply Kd.R_drew)); exact HO226.out) (Kd.R_base ho0) hb); have n2_ := Aside0.mk (Kd.R_lower (Kd.R_new' (Kd.R_new' ho0 (Kd.R_lt (by (with_reducible repeat (first | apply Kd.R_alloc | apply Kd.R_drewN | apply Kd.R_drew)); exact HO221.out))) (Kd.R_lt (by (with_reducible repeat (first | apply Kd.R_alloc | apply Kd.R_drewN | apply Kd.R_drew)); exact HO226.out))) (below_size (by repeat (first | (with_reducible first | exact HB.out | apply below_alloc | apply pw_below_drewN | apply below_drew1) | exact HB.out)))); have n3_ := Aside0.mk (below_step (by repeat (first | (with_reducible first | exact HB.out | apply below_alloc | apply pw_below_drewN | apply below_drew1) | exact HB.out)) hb); clear HO221; clear HO226; clear HB; have HO221 := n0_; have HO226 := n1_; have HO230 := n2_; have HB := n3_; clear n0_ n1_ n2_ n3_; (try clear hb); (try clear hb2); (try clear hk); (try clear hi); (try clear ho0); obtain ⟨Ao33, co33, eo33⟩ := Kd.R_slice HO226.out; subst eo33; obtain ⟨Ao34, co34, eo34⟩ := Kd.R_slice HO230.out; subst eo34) | ((with_reducible refine gate_callee (f := 14) rfl ?_); refine goesL_ (some 22) rfl rfl Try.func14 (by kernel_rfl) rfl #[.slice Ao33 t223.length co33, .slice Ao34 t227.length co34] rfl (by (try simp only [List.map_toArray, List.map_cons, List.map_nil]); first | done | rfl | (simp only [List.length_drop, List.length_take]; rfl)) ?_; (with_reducible refine (corporalaw05_equal.calls k _ _ t223 _ _ t227 false _ ?side1 ?side2 ?side3 ?side4 A9.out).mono ?_); (case side1 => repeat (first | exact (Kd.R_reads' HO226.out).2.2 | (with_reducible refine Kd.C_alloc ?_ _) | (with_reducible refine Kd.C_drewN ?_ _) | (with_reducible refine Kd.C_drew ?_))); (case side2 => exact (Kd.R_reads' HO226.out).2.1); (case side3 => repeat (first | exact (Kd.R_reads' HO230.out).2.2 | (with_reducible refine Kd.C_alloc ?_ _) | (with_reducible refine Kd.C_drewN ?_ _) | (with_reducible refine Kd.C_drew ?_))); (case side4 => exact (Kd.R_reads' HO230.out).2.1); rintro e w' ⟨rfl, ⟨nd, rfl⟩⟩; refine ⟨_, rfl, ?_⟩))
      go_ret
      exact ⟨by first | rfl | (simp [errW_none, errW_some] <;> rfl) | (simp [*, errW_none, errW_some] <;> rfl), by repeat (first | (with_reducible first | exact HB.out | apply below_alloc | apply pw_below_drewN | apply below_drew1) | exact HB.out)⟩

/-- THE ONE PURE STATEMENT of corporalaw05_FeatureParses: yours. -/
def corporalaw05_FeatureParses.Pure : Prop := ∀ (a0 : ByteArray), a0.size ≤ 140737488351232 → ∃ k, corporalaw05_FeatureParses.f k a0 = some true
theorem corporalaw05_FeatureParses.walk (P : corporalaw05_FeatureParses.Pure) (a0 : ByteArray) (w : World) (w0 : a0.size ≤ 140737488351232) :
    Calls Try.prog 3 #[.string a0] w fun e w' => e = .returned (.bool true) ∧ Below w.heap.size w w' := by
  obtain ⟨k, h⟩ := P a0 w0
  refine (corporalaw05_FeatureParses.calls k a0 true w h).mono ?_
  rintro e w' ⟨rfl, hd⟩
  exact ⟨rfl, hd⟩

end Go.Proofs.Ytcgglamgemgeiaa.Q
/- FLaws -/
namespace Go.Proofs.Ytcgglamgemgeiaa.Q
open Go.Lib
theorem text_inj {l m : List ByteArray} (hl : ∀ f ∈ l, Feat f) (hm : ∀ f ∈ m, Feat f) (h : text l = text m) : l = m := by
  have h1 : tailT l = tailT m := by
    have := congrArg bl h
    rw [bl_text, bl_text] at this
    exact (List.cons.inj this).2
  have h2 := spl_tail l (fun f hf => ⟨(hl f hf).2.1, (hl f hf).2.2⟩)
  have h3 := spl_tail m (fun f hf => ⟨(hm f hf).2.1, (hm f hf).2.2⟩)
  rw [h1, h3] at h2
  have h4 := congrArg (List.map mkB) (Option.some.inj h2)
  have e : ∀ k : List ByteArray, (k.map bl).map mkB = k := fun k => by
    rw [List.map_map]
    conv => rhs; rw [← List.map_id k]
    exact List.map_congr_left (fun x _ => mkB_bl x)
  rw [e, e] at h4
  exact h4.symm
theorem tail_sub {l m : List ByteArray} (h : l.Sublist m) : (tailT l).length ≤ (tailT m).length := by
  induction h with
  | slnil => exact Nat.le_refl _
  | cons a h ih => simp only [tailT, List.length_append, List.length_cons]; omega
  | cons_cons a h ih => simp only [tailT, List.length_append, List.length_cons]; omega
theorem text_sub {l m : List ByteArray} (h : l.Sublist m) : (text l).size ≤ (text m).size := by
  rw [size_text, size_text]; have := tail_sub h; omega
theorem FM_congr {l m : List ByteArray} (hl : ∀ f ∈ l, Feat f) (hm : ∀ x, x ∈ m ↔ x ∈ l) : FM m = FM l := by
  rw [FM_feat hl, FM_feat (fun f hf => hl f ((hm f).1 hf)), nrm_congr hm]
theorem FM_same {s : ByteArray} {l m : List ByteArray} (h : PR s = (l, 0)) (hm : ∀ x, x ∈ m ↔ x ∈ l) : FM m = (s, 0) := by
  obtain ⟨h1, h2, h3, h4⟩ := PR_ok h
  rw [FM_feat (fun f hf => h3 f ((hm f).1 hf)), nrm_of_ss h2 hm, ← h1, if_neg (by omega)]
/-- A list of features that is what two sets' features are joined to. -/
theorem app_feat {x y : List ByteArray} (hx : ∀ f ∈ x, Feat f) (hy : ∀ f ∈ y, Feat f) : ∀ f ∈ x ++ y, Feat f := fun f hf => (List.mem_append.1 hf).elim (hx f) (hy f)
theorem UN_def {a b : ByteArray} {x y : List ByteArray} (ha : PR a = (x, 0)) (hb : PR b = (y, 0)) : UN a b = FM (x ++ y) := by
  unfold UN; rw [ha, hb]; simp
theorem IS_def {a b : ByteArray} {x y : List ByteArray} (ha : PR a = (x, 0)) (hb : PR b = (y, 0)) : IS a b = (text (x.filter (memb y)), 0) := by
  unfold IS; rw [ha, hb]; simp
theorem SB_def {a b : ByteArray} {x y : List ByteArray} (ha : PR a = (x, 0)) (hb : PR b = (y, 0)) : SB a b = (x.all (memb y), 0) := by
  unfold SB; rw [ha, hb]; simp
theorem two_ok {α : Type} {a b : ByteArray} {d : α} {r : α × Int} (h : (if (PR a).2 ≠ 0 then (d, (PR a).2) else if (PR b).2 ≠ 0 then (d, (PR b).2) else r).2 = 0) : ∃ x y, PR a = (x, 0) ∧ PR b = (y, 0) := by
  by_cases h1 : (PR a).2 = 0
  · by_cases h2 : (PR b).2 = 0
    · exact ⟨_, _, PR_eta h1, PR_eta h2⟩
    · rw [if_neg (by simp [h1]), if_pos h2] at h; exact absurd h h2
  · rw [if_pos h1] at h; exact absurd h h1
theorem filter_text {a : ByteArray} {x : List ByteArray} (ha : PR a = (x, 0)) (p : ByteArray → Bool) : PR (text (x.filter p)) = (x.filter p, 0) := by
  obtain ⟨h1, h2, h3, h4⟩ := PR_ok ha
  refine PR_text (h2.filter p) (fun f hf => h3 f (List.mem_filter.1 hf).1) ?_
  have := text_sub (List.filter_sublist (p := p) (l := x))
  rw [h1] at h4; omega
theorem UN_ok {a b : ByteArray} {x y : List ByteArray} (ha : PR a = (x, 0)) (hb : PR b = (y, 0)) (h : (UN a b).2 = 0) : (UN a b).1 = text (nrm (x ++ y)) ∧ PR (UN a b).1 = (nrm (x ++ y), 0) := by
  have hf := app_feat (PR_ok ha).2.2.1 (PR_ok hb).2.2.1
  rw [UN_def ha hb, FM_feat hf] at h ⊢
  by_cases hs : 120 < (text (nrm (x ++ y))).size
  · rw [if_pos hs] at h; cases h
  · rw [if_neg hs]
    exact ⟨rfl, PR_text (nrm_ss _) (fun f hf' => hf f ((nrm_mem _ _).1 hf')) (by omega)⟩
theorem un_assoc {a b c : ByteArray} (h1 : (UN a b).2 = 0) (h2 : (UN c b).2 = 0) : UN (UN a b).1 c = UN a (UN c b).1 := by
  obtain ⟨x, y, ha, hb⟩ := two_ok h1
  obtain ⟨z, y', hc, hb'⟩ := two_ok h2
  obtain rfl : y = y' := by rw [hb] at hb'; exact (Prod.mk.inj hb').1
  have hu := (UN_ok ha hb h1).2
  have hv := (UN_ok hc hb h2).2
  rw [UN_def hu hc, UN_def ha hv]
  refine FM_congr (app_feat (PR_ok ha).2.2.1 (fun f hf => app_feat (PR_ok hc).2.2.1 (PR_ok hb).2.2.1 f ((nrm_mem _ _).1 hf))) (fun f => ?_)
  simp only [List.mem_append, nrm_mem]
  constructor
  · rintro ((h | h) | h)
    · exact .inl h
    · exact .inr (.inr h)
    · exact .inr (.inl h)
  · rintro (h | h | h)
    · exact .inl (.inl h)
    · exact .inr h
    · exact .inl (.inr h)
theorem is_assoc {a b c : ByteArray} (h1 : (IS a b).2 = 0) (h2 : (IS c b).2 = 0) : IS (IS a b).1 c = IS a (IS c b).1 := by
  obtain ⟨x, y, ha, hb⟩ := two_ok h1
  obtain ⟨z, y', hc, hb'⟩ := two_ok h2
  obtain rfl : y = y' := by rw [hb] at hb'; exact (Prod.mk.inj hb').1
  rw [IS_def ha hb, IS_def hc hb]
  rw [IS_def (filter_text ha _) hc, IS_def ha (filter_text hc _), List.filter_filter]
  congr 2
  refine List.filter_congr (fun f _ => ?_)
  rw [Bool.eq_iff_iff]
  simp only [Bool.and_eq_true, memb_iff, List.mem_filter]
theorem HS_iff {s f : ByteArray} {l : List ByteArray} (h : PR s = (l, 0)) : HS s f = true ↔ f ∈ l := by
  unfold HS; rw [h]; simp [memb_iff]
theorem un_member {a b f : ByteArray} (h : (UN a b).2 = 0) : HS (UN a b).1 f = (HS a f || HS b f) := by
  obtain ⟨x, y, ha, hb⟩ := two_ok h
  have hu := (UN_ok ha hb h).2
  rw [Bool.eq_iff_iff, HS_iff hu, Bool.or_eq_true, HS_iff ha, HS_iff hb, nrm_mem, List.mem_append]
theorem is_member {a b f : ByteArray} (h : (IS a b).2 = 0) : HS (IS a b).1 f = (HS a f && HS b f) := by
  obtain ⟨x, y, ha, hb⟩ := two_ok h
  rw [Bool.eq_iff_iff, IS_def ha hb, HS_iff (filter_text ha _), Bool.and_eq_true, HS_iff ha, HS_iff hb, List.mem_filter, memb_iff]
theorem all_memb {x y : List ByteArray} : x.all (memb y) = true ↔ ∀ f ∈ x, f ∈ y := by
  rw [List.all_eq_true]
  exact ⟨fun h f hf => memb_iff.1 (h f hf), fun h f hf => memb_iff.2 (h f hf)⟩
theorem sb_is {a b : ByteArray} (h : (SB a b).2 = 0) : (IS a b).2 = 0 ∧ ((IS a b).1 = a ↔ (SB a b).1 = true) := by
  obtain ⟨x, y, ha, hb⟩ := two_ok h
  rw [IS_def ha hb, SB_def ha hb]
  refine ⟨rfl, ?_⟩
  rw [all_memb]
  have hx := PR_ok ha
  constructor
  · intro e f hf
    have e2 : text (x.filter (memb y)) = text x := by rw [← hx.1]; exact e
    have e3 := text_inj (fun f hf => hx.2.2.1 f (List.mem_filter.1 hf).1) hx.2.2.1 e2
    rw [← e3] at hf
    exact memb_iff.1 (List.mem_filter.1 hf).2
  · intro hall
    have : x.filter (memb y) = x := List.filter_eq_self.2 (fun f hf => memb_iff.2 (hall f hf))
    show text (x.filter (memb y)) = a
    rw [this, ← hx.1]
theorem sb_un {a b : ByteArray} (h : (SB a b).2 = 0) : ((UN a b).2 = 0 ∧ ((UN a b).1 = b ↔ (SB a b).1 = true)) ∨ ((UN a b).2 = 2 ∧ (SB a b).1 = false) := by
  obtain ⟨x, y, ha, hb⟩ := two_ok h
  have hx := PR_ok ha
  have hy := PR_ok hb
  have hf := app_feat hx.2.2.1 hy.2.2.1
  have key : (SB a b).1 = true → UN a b = (b, 0) := fun hs => by
    rw [SB_def ha hb] at hs
    rw [UN_def ha hb]
    refine FM_same hb (fun f => ?_)
    rw [List.mem_append]
    exact ⟨fun hh => hh.elim (all_memb.1 hs f) id, .inr⟩
  cases hs : (SB a b).1 with
  | true =>
    left
    rw [key hs]
    exact ⟨rfl, by simp⟩
  | false =>
    by_cases h0 : (UN a b).2 = 0
    · left
      refine ⟨h0, ?_⟩
      constructor
      · intro e
        exfalso
        have hu := UN_ok ha hb h0
        rw [e, hb] at hu
        have e2 : y = nrm (x ++ y) := (Prod.mk.inj hu.2).1
        rw [SB_def ha hb] at hs
        have : x.all (memb y) = true := all_memb.2 (fun f hf => by rw [e2, nrm_mem]; exact List.mem_append.2 (.inl hf))
        simp only at hs
        rw [this] at hs; cases hs
      · intro hh; cases hh
    · right
      refine ⟨?_, rfl⟩
      rw [UN_def ha hb, FM_feat hf] at h0 ⊢
      by_cases hz : 120 < (text (nrm (x ++ y))).size
      · rw [if_pos hz]
      · rw [if_neg hz] at h0; exact absurd rfl h0
end Go.Proofs.Ytcgglamgemgeiaa.Q
/- InsAid -/
namespace Go.Proofs.Ytcgglamgemgeiaa.Q
open Go.RowKit Go.Lib Go.Proofs.YtcgglamgemgeiaaW.PrintWords Go.Proofs.YtcgglamgemgeiaaW.PrintLast
theorem rd_nat {l : List ByteArray} {i : Nat} (h : i < l.length) : rdOf ByteArray.empty l (i : Int) = l[i] := by
  unfold rdOf; rw [Int.toNat_natCast, List.getD_eq_getElem?_getD, List.getElem?_eq_getElem h]; rfl
theorem insB_at (f : ByteArray) : ∀ (l : List ByteArray) (i : Nat), i ≤ l.length → (∀ x ∈ l.take i, lt x f = true) → (∀ h : i < l.length, lt l[i] f = false) →
    insB l f = if h : i < l.length then (if l[i] = f then l else l.take i ++ f :: l.drop i) else l.take i ++ f :: l.drop i
  | [], i, hi, _, _ => by
    obtain rfl : i = 0 := by simpa using hi
    simp [insB]
  | a :: l, 0, _, _, h => by
    have h0 := h (by simp)
    simp only [List.getElem_cons_zero] at h0
    rw [insB, if_neg (by rw [h0]; simp), dif_pos (by simp)]
    simp
  | a :: l, i + 1, hi, ht, h => by
    have ha := ht a (by simp)
    have ih := insB_at f l i (by simpa using hi) (fun x hx => ht x (by simp [hx])) (fun h' => by have := h (by simpa using h'); simpa using this)
    rw [insB, if_pos ha, ih]
    by_cases h' : i < l.length
    · rw [dif_pos h', dif_pos (by simpa using h')]
      simp only [List.getElem_cons_succ]
      split <;> simp
    · rw [dif_neg h', dif_neg (by simpa using h')]
      simp
end Go.Proofs.Ytcgglamgemgeiaa.Q
/- FFeatureContains -/
namespace Go.Proofs.Ytcgglamgemgeiaa.Q
open Go.RowKit Go.Proofs.YtcgglamgemgeiaaW.PrintWords Go.Proofs.YtcgglamgemgeiaaW.PrintLast Go.Proofs.YtcgglamgemgeiaaW.PrintMore
attribute [local go_sem] max2_int min2_int max_two min_two max_three min_three max_four min_four   -- for this text's walks alone
set_option linter.unusedVariables false
set_option linter.unusedSimpArgs false

/-! ### feature_contains: function 33 -/
def feature_contains.l0 : Nat → ByteArray → List ByteArray → Int → Int → Option (Bool)
  | 0, _, _, _, _ => none
  | k + 1, x1, x7, x8, x9 => if x9 < x8 then (if 0 ≤ x9 then (if x9 < (x7.length : Int) then (if (rdOf ByteArray.empty x7 x9).toList = x1.toList then (some true) else (feature_contains.l0 k x1 x7 x8 (wrap64 (x9 + 1)))) else (none)) else (none)) else (some false)
def feature_contains.f (k : Nat) (l0 : List ByteArray) (a1 : ByteArray) : Option (Bool) := feature_contains.l0 k a1 l0 (l0.length : Int) 0
theorem feature_contains.mono_l : ∀ k, (∀ y0 y1 y2 y3, LeO (feature_contains.l0 k y0 y1 y2 y3) (feature_contains.l0 (k + 1) y0 y1 y2 y3))
  | 0 => fun _ _ _ _ r h => by simp [feature_contains.l0] at h
  | k + 1 => by
    have ih0 := feature_contains.mono_l k
    · intro y0 y1 y2 y3
      unfold feature_contains.l0
      repeat' first
      | (with_reducible exact ih0 _ _ _ _)
      | (with_reducible exact LeO.refl _)
      | (with_reducible exact LeO.none _)
      | (with_reducible refine LeO.ite ?_ ?_)
      | (with_reducible refine LeO.bind ?_ (fun _ => ?_))
      | exact ih0 _ _ _ _
      | exact LeO.none _
      | refine LeO.ite ?_ ?_
      | refine LeO.bind ?_ (fun _ => ?_)
theorem feature_contains.mono : ∀ a0 a1 k, LeO (feature_contains.f k a0 a1) (feature_contains.f (k + 1) a0 a1) := by
  intro a0 a1 k
  have ih0 := feature_contains.mono_l k
  unfold feature_contains.f
  repeat' first
      | (with_reducible exact ih0 _ _ _ _)
      | (with_reducible exact LeO.refl _)
      | (with_reducible exact LeO.none _)
      | (with_reducible refine LeO.ite ?_ ?_)
      | (with_reducible refine LeO.bind ?_ (fun _ => ?_))
      | exact ih0 _ _ _ _
      | exact LeO.none _
      | refine LeO.ite ?_ ?_
      | refine LeO.bind ?_ (fun _ => ?_)
set_option maxHeartbeats 8000000 in
set_option maxRecDepth 100000 in
theorem feature_contains.calls (k : Nat) (A0 : Option Addr) (c0 : Nat) (l0 : List ByteArray) (a1 : ByteArray) (r : Bool) (w : World) (hr0 : Kd.C Kd.string w A0 l0.length l0) (hc0 : l0.length ≤ c0) (h : feature_contains.f k l0 a1 = some r) :
    Calls Try.prog 33 #[.slice A0 l0.length c0, .string a1] w fun e w' => e = .returned (.bool r) ∧ Drawn0 w w' := by
  have HR0 := Aside0.mk hr0
  have HC0 := Aside0.mk hc0
  clear hr0 hc0
  have H : (feature_contains.l0 k a1 l0 (l0.length : Int) 0) = some r := h
  clear h
  have H' := Aside0.mk H
  clear H
  go_enter Try.func33, Try.ntmps33
  go_wp2
  go_loopg [9] k (fun kq v9 w' => ∃ (x9_1 : Int), v9 = .int .i64 x9_1 ∧ Aside0 (feature_contains.l0 kq a1 l0 (l0.length : Int) x9_1 = some r) ∧ Aside0 (kq ≤ k) ∧ Drawn0 w w')
  case atStart => exact ⟨(0), (by first | rfl | (simp; done) | (simp [*]; done)), H', ⟨Nat.le_refl _⟩, by repeat (first | exact Drawn0.refl _ | apply Drawn0.step)⟩
  case round =>
    clear H'
    try clear p2
    obtain ⟨x9_1, rfl, HA, HK1, ⟨m1, rfl⟩⟩ := hrel
    cases gk with
    | zero => exact absurd HA.out (by simp [feature_contains.l0])
    | succ k1 =>
      have H := HA.out
      clear HA
      simp only [feature_contains.l0] at H
      by_cases c3 : x9_1 < (l0.length : Int)
      · rw [if_pos c3] at H
        have c3b0 : decide (x9_1 < (l0.length : Int)) = true := decide_eq_true c3
        clear c3
        by_cases c4 : 0 ≤ x9_1
        · rw [if_pos c4] at H
          have c4b0 : decide (0 ≤ x9_1) = true := decide_eq_true c4
          clear c4
          by_cases c5 : x9_1 < (l0.length : Int)
          · rw [if_pos c5] at H
            have c5b0 : decide (x9_1 < (l0.length : Int)) = true := decide_eq_true c5
            clear c5
            by_cases c6 : (rdOf ByteArray.empty l0 x9_1).toList = a1.toList
            · rw [if_pos c6] at H
              have c6b0 : ((rdOf ByteArray.empty l0 x9_1).toList == a1.toList) = true := beq_iff_eq.mpr c6
              have c6b1 : ((rdOf ByteArray.empty l0 x9_1).toList != a1.toList) = false := bne_eq_false_iff_eq.mpr c6
              clear c6
              obtain rfl := Option.some.inj H
              have p320 : 0 ≤ (x9_1 : Int) := of_decide_eq_true (by first | (with_reducible assumption) | assumption)
              have q320 : x9_1 < (l0.length : Int) := of_decide_eq_true (by first | (with_reducible assumption) | assumption)
              obtain ⟨ad320, e320, hx320_0⟩ := Kd.at_string HR0.out x9_1 p320 q320
              cases e320
              replace p320 := eq_true p320
              replace q320 := eq_true q320
              go_wp2
              go_ret
              exact ⟨by first | rfl | (simp; done) | (simp [*]; done), by repeat (first | exact Drawn0.refl _ | apply Drawn0.step)⟩
            · rw [if_neg c6] at H
              have c6b0 : ((rdOf ByteArray.empty l0 x9_1).toList == a1.toList) = false := beq_eq_false_iff_ne.mpr c6
              have c6b1 : ((rdOf ByteArray.empty l0 x9_1).toList != a1.toList) = true := bne_iff_ne.mpr c6
              have H' := Aside0.mk H
              clear H
              have p320 : 0 ≤ (x9_1 : Int) := of_decide_eq_true (by first | (with_reducible assumption) | assumption)
              have q320 : x9_1 < (l0.length : Int) := of_decide_eq_true (by first | (with_reducible assumption) | assumption)
              obtain ⟨ad320, e320, hx320_0⟩ := Kd.at_string HR0.out x9_1 p320 q320
              cases e320
              replace p320 := eq_true p320
              replace q320 := eq_true q320
              go_wp2
              go_roundg k1
              case measure => have := HK1.out; omega
              case rel => exact ⟨(wrap64 (x9_1 + 1)), (by first | rfl | (simp; done) | (simp [*]; done)), H', ⟨by have := HK1.out; omega⟩, by repeat (first | exact Drawn0.refl _ | apply Drawn0.step)⟩
          · rw [if_neg c5] at H
            exact absurd H (by simp)
        · rw [if_neg c4] at H
          exact absurd H (by simp)
      · rw [if_neg c3] at H
        have c3b0 : decide (x9_1 < (l0.length : Int)) = false := decide_eq_false c3
        clear c3
        obtain rfl := Option.some.inj H
        go_wp2
        go_ret
        exact ⟨by first | rfl | (simp; done) | (simp [*]; done), by repeat (first | exact Drawn0.refl _ | apply Drawn0.step)⟩

end Go.Proofs.Ytcgglamgemgeiaa.Q
/- FEv -/
namespace Go.Proofs.Ytcgglamgemgeiaa.Q
open Go.RowKit Go.Lib Go.Proofs.YtcgglamgemgeiaaW.PrintWords Go.Proofs.YtcgglamgemgeiaaW.PrintLast
theorem bt_nat {s : ByteArray} {i : Nat} (h : i < (bl s).length) : bt s (i : Int) = ((bl s)[i].toNat : Int) := by
  have h' : i < s.size := by rw [← bl_length]; exact h
  unfold bt
  rw [dif_pos (by rw [Int.toNat_natCast]; exact h')]
  rfl
theorem bt_124 {s : ByteArray} {i : Nat} (h : i < (bl s).length) : (bt s (i : Int) = 124) ↔ (bl s)[i] = 124 := by
  rw [bt_nat h]
  constructor
  · intro e
    exact UInt8.toNat_inj.1 (by rw [show (124 : UInt8).toNat = 124 from rfl]; omega)
  · intro e; rw [e]; rfl
theorem bl_extract (s : ByteArray) (a b : Nat) : bl (s.extract a b) = ((bl s).drop a).take (b - a) := extract_data s a b
/-! ### Parse -/
/-- Whether a list is sorted, as Parse answers. -/
def SR (l : List ByteArray) : List ByteArray × Int := if srt l = true then (l, 0) else ([], 6)
theorem srt_short {l : List ByteArray} (h : l.length ≤ 1) : srt l = true := by
  match l, h with
  | [], _ => rfl
  | [_], _ => rfl
  | _ :: _ :: _, h => simp at h
theorem parse_l1 (l : List ByteArray) (hl : l.length ≤ 1073741824) : ∀ d i : Nat, 1 ≤ i → i + d = l.length + 1 → Ev (fun k => feature_Parse.l1 k l (i : Int)) (if srt (l.drop (i - 1)) = true then (l, 0) else ([], 6)) := by
  intro d
  induction d with
  | zero =>
    intro i h1 hd
    refine Ev.step (fun k => by rw [feature_Parse.l1]) ?_
    rw [srt_short (by rw [List.length_drop]; omega), if_pos rfl]
    exact ev_neg (by omega) (Ev.now _)
  | succ d ih =>
    intro i h1 hd
    refine Ev.step (fun k => by rw [feature_Parse.l1]) ?_
    by_cases hi : i < l.length
    · refine ev_pos (by omega) ?_
      rw [wrap_dn i h1 (by omega)]
      refine ev_pos (by omega) (ev_pos (by omega) (ev_pos (by omega) ?_))
      rw [rd_nat (show i - 1 < l.length by omega), rd_nat hi, lt_eq]
      have e : l.drop (i - 1) = l[i - 1] :: l[i] :: l.drop (i + 1) := by
        rw [List.drop_eq_getElem_cons (show i - 1 < l.length by omega)]
        have : i - 1 + 1 = i := by omega
        rw [this, List.drop_eq_getElem_cons hi]
      have e2 : l.drop (i + 1 - 1) = l[i] :: l.drop (i + 1) := by rw [Nat.add_sub_cancel, List.drop_eq_getElem_cons hi]
      by_cases hlt : lt l[i - 1] l[i] = true
      · refine ev_pos hlt ?_
        rw [wrap_up i (by omega), e, srt, hlt, Bool.true_and, ← e2]
        exact ih (i + 1) (by omega) (by omega)
      · refine ev_neg hlt ?_
        rw [e, srt]
        have : lt l[i - 1] l[i] = false := by simpa using hlt
        rw [this, Bool.false_and]
        exact Ev.now _
    · obtain rfl : i = l.length := by omega
      rw [srt_short (by rw [List.length_drop]; omega), if_pos rfl]
      exact ev_neg (by omega) (Ev.now _)
/-- What is left of Parse from a place on. -/
def PL (acc : List ByteArray) (r cur : List UInt8) : List ByteArray × Int :=
  match spl r cur with
  | none => ([], 3)
  | some l => SR (acc ++ l.map mkB)
theorem parse_l0 (s : ByteArray) (hs : s.size ≤ 120) : ∀ (d i frm : Nat) (acc : List ByteArray), 1 ≤ frm → frm ≤ i → i + d = s.size → acc.length ≤ i →
    Ev (fun k => feature_Parse.l0 k s acc (frm : Int) (i : Int)) (PL acc ((bl s).drop i) (((bl s).drop frm).take (i - frm))) := by
  intro d
  induction d with
  | zero =>
    intro i frm acc h0 h1 hd ha
    refine Ev.step (fun k => by rw [feature_Parse.l0]) ?_
    refine ev_neg (by omega) ?_
    have : (bl s).drop i = [] := List.drop_eq_nil_of_le (by rw [bl_length]; omega)
    rw [this]
    have := parse_l1 acc (by omega) acc.length 1 (by omega) (by omega)
    unfold PL spl SR
    simpa using this
  | succ d ih =>
    intro i frm acc h0 h1 hd ha
    have hi : i < (bl s).length := by rw [bl_length]; omega
    refine Ev.step (fun k => by rw [feature_Parse.l0]) ?_
    refine ev_pos (by omega) (ev_pos (by omega) ?_)
    rw [List.drop_eq_getElem_cons hi]
    by_cases hb : (bl s)[i] = 124
    · refine ev_pos ((bt_124 hi).2 hb) ?_
      by_cases he : i = frm
      · refine ev_pos (by omega) ?_
        subst he
        unfold PL
        rw [Nat.sub_self, List.take_zero, spl, if_pos hb, if_pos rfl]
        exact Ev.now _
      · refine ev_neg (by omega) (ev_pos (by omega) (ev_pos (by omega) (ev_pos (by omega) (ev_pos (by omega) ?_))))
        rw [wrap_up i (by omega), Int.toNat_natCast, Int.toNat_natCast]
        refine ev_eq (ih (i + 1) (i + 1) _ (by omega) (by omega) (by omega) (by rw [List.length_append, List.length_singleton]; omega)) ?_
        unfold PL
        rw [Nat.sub_self, List.take_zero, spl, if_pos hb]
        have hne : ((bl s).drop frm).take (i - frm) ≠ [] := by
          intro h
          have := congrArg List.length h
          rw [List.length_take, List.length_drop, bl_length] at this
          simp at this; omega
        rw [if_neg hne]
        cases hsp : spl ((bl s).drop (i + 1)) [] with
        | none => rfl
        | some m =>
          have : s.extract frm i = mkB (((bl s).drop frm).take (i - frm)) := bl_inj (by rw [bl_mkB, bl_extract])
          simp [this]
    · refine ev_neg (fun h => hb ((bt_124 hi).1 h)) ?_
      rw [wrap_up i (by omega)]
      refine ev_eq (ih (i + 1) frm _ h0 (by omega) (by omega) (by omega)) ?_
      unfold PL
      rw [spl, if_neg hb]
      have : ((bl s).drop frm).take (i + 1 - frm) = ((bl s).drop frm).take (i - frm) ++ [(bl s)[i]] := by
        have e1 : i + 1 - frm = (i - frm) + 1 := by omega
        have : frm + (i - frm) = i := by omega
        rw [e1, List.take_add_one, List.getElem?_drop, this, List.getElem?_eq_getElem hi]
        rfl
      rw [this]
theorem parse_ev (s : ByteArray) : Ev (fun k => feature_Parse.f k s) (PR s) := by
  unfold feature_Parse.f markup_ValidValue.f
  refine ev_some ?_
  by_cases h0 : vv s = 0
  · refine ev_pos h0 ?_
    have hz := (vv_zero.1 h0).1
    have hpr : PR s = if (bl s).head? ≠ some 124 ∨ (bl s).getLast? ≠ some 124 then ([], 3) else PL [] (bl s).tail [] := by
      unfold PR PL SR
      rw [if_neg (by simp [h0])]
      first
        | (simp only [List.nil_append]; done)
        | (simp only [List.nil_append]; rfl)
    have three : ∀ {r : List ByteArray × Int}, r = ([], 3) → Ev (fun k => feature_Parse.j0 k s true) r := fun h => Ev.step (fun k => by rw [feature_Parse.j0]) (ev_pos rfl (ev_now h.symm))
    rw [hpr]
    rw [toList_bl]
    by_cases h1 : bl s = [124]
    · refine ev_pos h1 (ev_now ?_)
      rw [h1]; simp [PL, spl, SR, srt]
    · refine ev_neg h1 ?_
      by_cases h2 : (s.size : Int) < 2
      · refine ev_pos h2 (three ?_)
        refine if_pos (.inl ?_)
        have hl := bl_length s
        match hb : bl s with
        | [] => simp
        | [b] => rw [hb] at h1; simp at h1 ⊢; exact h1
        | _ :: _ :: _ => rw [hb] at hl; simp at hl; omega
      · refine ev_neg h2 (ev_pos (by omega) ?_)
        have hl := bl_length s
        have k0 : 0 < (bl s).length := by omega
        have k1 : s.size - 1 < (bl s).length := by omega
        have e0 : (bl s).head? = some (bl s)[0] := by rw [List.head?_eq_getElem?, List.getElem?_eq_getElem k0]
        have e1 : (bl s).getLast? = some (bl s)[s.size - 1] := by rw [List.getLast?_eq_getElem?, hl, List.getElem?_eq_getElem k1]
        rw [e0, e1, show ((s.size : Int) - 1) = ((s.size : Nat) : Int) - 1 from rfl, wrap_dn s.size (by omega) (by omega)]
        by_cases h3 : (bl s)[0] = 124
        · refine ev_pos ((bt_124 k0).2 h3) (ev_pos (by omega) (ev_pos (by omega) ?_))
          by_cases h4 : (bl s)[s.size - 1] = 124
          · have hb : (bt s ((s.size - 1 : Nat) : Int) != 124) = false := by rw [bne_eq_false_iff_eq]; exact (bt_124 k1).2 h4
            rw [hb, if_neg (by simp [h3, h4])]
            refine Ev.step (fun k => by rw [feature_Parse.j0]) (ev_neg (by simp) ?_)
            have := parse_l0 s hz (s.size - 1) 1 1 [] (by omega) (by omega) (by omega) (by simp)
            rw [Nat.sub_self, List.take_zero, List.drop_one] at this
            exact this
          · have hb : (bt s ((s.size - 1 : Nat) : Int) != 124) = true := by rw [bne_iff_ne]; exact fun h => h4 ((bt_124 k1).1 h)
            rw [hb]
            exact three (if_pos (.inr (by simp [h4])))
        · exact ev_neg (fun h => h3 ((bt_124 k0).1 h)) (three (if_pos (.inl (by simp [h3]))))
  · refine ev_neg h0 (ev_now ?_)
    unfold PR; rw [if_pos h0]
end Go.Proofs.Ytcgglamgemgeiaa.Q
/- FEv2 -/
namespace Go.Proofs.Ytcgglamgemgeiaa.Q
open Go.RowKit Go.Lib Go.Proofs.YtcgglamgemgeiaaW.PrintWords Go.Proofs.YtcgglamgemgeiaaW.PrintLast
theorem contains_loop (l : List ByteArray) (f : ByteArray) (hl : l.length ≤ 1073741824) : ∀ d i : Nat, i + d = l.length → Ev (fun k => feature_contains.l0 k f l (l.length : Int) (i : Int)) (memb (l.drop i) f) := by
  intro d
  induction d with
  | zero =>
    intro i hd
    refine Ev.step (fun k => by rw [feature_contains.l0]) ?_
    rw [List.drop_eq_nil_of_le (by omega)]
    exact ev_neg (by omega) (Ev.now _)
  | succ d ih =>
    intro i hd
    have hi : i < l.length := by omega
    refine Ev.step (fun k => by rw [feature_contains.l0]) ?_
    refine ev_pos (by omega) (ev_pos (by omega) (ev_pos (by omega) ?_))
    rw [rd_nat hi, List.drop_eq_getElem_cons hi]
    by_cases he : l[i] = f
    · refine ev_pos (toList_eq_iff.2 he) (ev_now ?_)
      unfold memb; rw [List.any_cons, decide_eq_true he, Bool.true_or]
    · refine ev_neg (fun h => he (toList_eq_iff.1 h)) ?_
      rw [wrap_up i (by omega)]
      refine ev_eq (ih (i + 1) (by omega)) ?_
      unfold memb; rw [List.any_cons, decide_eq_false he, Bool.false_or]
theorem contains_ev (l : List ByteArray) (f : ByteArray) (hl : l.length ≤ 1073741824) : Ev (fun k => feature_contains.f k l f) (memb l f) := contains_loop l f hl l.length 0 (by omega)
theorem indexByte_iff (l : List UInt8) (c : UInt8) : decide (0 ≤ Lib.indexByte l c) = decide (c ∈ l) := by
  induction l with
  | nil => simp [Lib.indexByte]
  | cons b l ih =>
    rw [Lib.indexByte]
    by_cases h : b = c
    · subst h; simp
    · have h1 : (b == c) = false := beq_eq_false_iff_ne.2 h
      rw [h1]
      have hge := Lib.indexByte_ge l c
      have hne : ¬ c = b := fun e => h e.symm
      by_cases h2 : Lib.indexByte l c = -1
      · rw [h2] at ih ⊢
        simp at ih ⊢
        exact ⟨hne, ih⟩
      · have h3 : (Lib.indexByte l c == -1) = false := beq_eq_false_iff_ne.2 h2
        rw [h3]
        have h4 : 0 ≤ Lib.indexByte l c := by omega
        rw [decide_eq_true h4] at ih
        have hm : c ∈ l := of_decide_eq_true ih.symm
        simp [hm]
        omega
theorem strings_ev (f : ByteArray) : strings_Contains.f f (⟨#[124]⟩ : ByteArray) = some (decide ((124 : UInt8) ∈ bl f)) := by
  unfold strings_Contains.f
  rw [if_pos rfl, indexByte_iff]
  rfl
/-! ### insert -/
theorem lay_get (zs : List ByteArray) : ∀ (ys : List ByteArray) (o j : Nat), o + zs.length ≤ ys.length → (lay ys o zs)[j]? = if o ≤ j ∧ j < o + zs.length then zs[j - o]? else ys[j]? := by
  induction zs with
  | nil => intro ys o j _; rw [lay, if_neg (by simp only [List.length_nil]; omega)]
  | cons z zs ih =>
    intro ys o j h
    rw [List.length_cons] at h
    rw [lay, ih _ _ _ (by rw [List.length_set]; omega), List.length_cons]
    by_cases h1 : o + 1 ≤ j ∧ j < o + 1 + zs.length
    · rw [if_pos h1, if_pos (by omega)]
      have : j - o = (j - (o + 1)) + 1 := by omega
      rw [this, List.getElem?_cons_succ]
    · rw [if_neg h1]
      by_cases h2 : j = o
      · subst h2
        rw [List.getElem?_set_self (by omega), if_pos (by omega), Nat.sub_self, List.getElem?_cons_zero]
      · rw [List.getElem?_set_ne (fun e => h2 e.symm), if_neg (by omega)]
theorem insLay_eq (l : List ByteArray) (e f : ByteArray) (i : Nat) (hi : i ≤ l.length) : (insLay (l ++ [e]) (i : Int)).set i f = l.take i ++ f :: l.drop i := by
  unfold insLay
  rw [Int.toNat_natCast]
  have hz : ((l ++ [e]).drop i).take ((l ++ [e]).length - (i + 1)) = l.drop i := by
    rw [List.drop_append_of_le_length hi, List.length_append, List.length_singleton, List.take_append_of_le_length (by rw [List.length_drop]; omega), List.take_of_length_le (by rw [List.length_drop]; omega)]
  rw [hz]
  apply List.ext_getElem?
  intro j
  have hlen : i + 1 + (l.drop i).length ≤ (l ++ [e]).length := by rw [List.length_drop, List.length_append, List.length_singleton]; omega
  by_cases h1 : j = i
  · subst h1
    rw [List.getElem?_set_self (by rw [lay_length, List.length_append, List.length_singleton]; omega), List.getElem?_append_right (by rw [List.length_take]; omega), List.length_take]
    have : j - min j l.length = 0 := by omega
    rw [this]; rfl
  · rw [List.getElem?_set_ne (fun e => h1 e.symm), lay_get _ _ _ _ hlen, List.length_drop]
    by_cases h2 : j < i
    · rw [if_neg (by omega), List.getElem?_append_left (by omega), List.getElem?_append_left (by rw [List.length_take]; omega), List.getElem?_take, if_pos h2]
    · have e0 : (l.take i ++ f :: l.drop i)[j]? = (l.drop i)[j - (i + 1)]? := by
        rw [List.getElem?_append_right (by rw [List.length_take]; omega), List.length_take]
        have e1 : j - min i l.length = (j - (i + 1)) + 1 := by omega
        rw [e1, List.getElem?_cons_succ]
      rw [e0]
      by_cases h3 : j < i + 1 + (l.length - i)
      · rw [if_pos (by omega)]
      · rw [List.getElem?_drop]
        rw [if_neg (by omega), List.getElem?_eq_none (by rw [List.length_append, List.length_singleton]; omega), List.getElem?_eq_none (by omega)]
theorem insert_j2 (l : List ByteArray) (f : ByteArray) (hl : l.length ≤ 1073741824) (i : Nat) (hi : i ≤ l.length) : Ev (fun k => feature_insert.j2 k l f (i : Int) false) (l.take i ++ f :: l.drop i) := by
  refine Ev.step (fun k => by rw [feature_insert.j2]) ?_
  refine ev_neg (by simp) (ev_pos (by omega) (ev_some ?_))
  have hy : (l ++ [(⟨#[]⟩ : ByteArray)]).length = l.length + 1 := by simp
  rw [wrap_up i (by omega), hy]
  refine ev_pos (by omega) (ev_pos (by omega) (ev_pos (by omega) (ev_pos (by omega) (ev_pos (by omega) (ev_now ?_)))))
  rw [Int.toNat_natCast]
  exact insLay_eq l _ f i hi
theorem insert_loop (l : List ByteArray) (f : ByteArray) (hl : l.length ≤ 1073741824) (hs : SS l) : ∀ i : Nat, i ≤ l.length → (∀ j (h : j < l.length), i ≤ j → lt l[j] f = false) → Ev (fun k => feature_insert.l0 k l f (i : Int)) (insB l f) := by
  have fin : ∀ i : Nat, i ≤ l.length → (∀ x ∈ l.take i, lt x f = true) → (∀ h : i < l.length, lt l[i] f = false) → Ev (fun k => feature_insert.j1 k l f (i : Int) false) (insB l f) := by
    intro i hi ht hd
    rw [insB_at f l i hi ht hd]
    refine Ev.step (fun k => by rw [feature_insert.j1]) (ev_neg (by simp) ?_)
    by_cases h : i < l.length
    · refine ev_pos (by omega) (ev_pos (by omega) ?_)
      rw [dif_pos h, rd_nat h]
      by_cases he : l[i] = f
      · rw [if_pos he, he]
        refine Ev.step (fun k => by rw [feature_insert.j2]) (ev_pos (by simp) (Ev.now _))
      · rw [if_neg he]
        have : (l[i].toList == f.toList) = false := beq_eq_false_iff_ne.2 (fun h => he (toList_eq_iff.1 h))
        rw [this]
        exact insert_j2 l f hl i hi
    · rw [dif_neg h]
      exact ev_neg (by omega) (insert_j2 l f hl i hi)
  intro i
  induction i with
  | zero =>
    intro _ h
    refine Ev.step (fun k => by rw [feature_insert.l0]) (ev_neg (by omega) ?_)
    exact fin 0 (by omega) (by simp) (fun h' => h 0 h' (Nat.le_refl _))
  | succ i ih =>
    intro hi h
    have hi' : i < l.length := by omega
    refine Ev.step (fun k => by rw [feature_insert.l0]) (ev_pos (by omega) ?_)
    rw [wrap_dn (i + 1) (by omega) (by omega), Nat.add_sub_cancel]
    refine ev_pos (by omega) (ev_pos (by omega) ?_)
    rw [rd_nat hi', lt_eq]
    cases hlt : lt l[i] f with
    | false =>
      refine Ev.step (fun k => by rw [feature_insert.j1]) (ev_pos (show (!false) = true from rfl) ?_)
      rw [wrap_dn (i + 1) (by omega) (by omega), Nat.add_sub_cancel]
      refine ih (by omega) (fun j hj hij => ?_)
      rcases Nat.lt_or_ge i j with h1 | h1
      · exact h j hj h1
      · obtain rfl : j = i := by omega
        exact hlt
    | true =>
      refine fin (i + 1) hi (fun x hx => ?_) (fun h' => h (i + 1) h' (Nat.le_refl _))
      rw [List.take_add_one, List.getElem?_eq_getElem hi', List.mem_append] at hx
      rcases hx with hx | hx
      · obtain ⟨j, hj, rfl⟩ := List.mem_iff_getElem.1 hx
        rw [List.length_take] at hj
        rw [List.getElem_take]
        exact lt_trans (List.pairwise_iff_getElem.1 hs j i (by omega) hi' (by omega)) hlt
      · simp at hx; rw [hx]; exact hlt
theorem insert_ev (l : List ByteArray) (f : ByteArray) (hl : l.length ≤ 1073741824) (hs : SS l) : Ev (fun k => feature_insert.f k l f) (insB l f) :=
  insert_loop l f hl hs l.length (Nat.le_refl _) (fun j h hj => by omega)
/-! ### Format -/
theorem format_l1 (l : List ByteArray) (hl : l.length ≤ 1073741824) (hsz : ∀ g ∈ l, g.size ≤ 120) : ∀ (d i : Nat) (out : ByteArray), i + d = l.length → out.size ≤ 120 →
    Ev (fun k => feature_Format.l1 k out l (l.length : Int) (i : Int)) (if 120 < out.size + (tailT (l.drop i)).length then (⟨#[]⟩, 2) else (mkB (bl out ++ tailT (l.drop i)), 0)) := by
  intro d
  induction d with
  | zero =>
    intro i out hd ho
    refine Ev.step (fun k => by rw [feature_Format.l1]) (ev_neg (by omega) (ev_now ?_))
    rw [List.drop_eq_nil_of_le (by omega), tailT, List.append_nil, mkB_bl]
    rw [if_neg (by simp; omega)]
  | succ d ih =>
    intro i out hd ho
    have hi : i < l.length := by omega
    have hg := hsz l[i] (List.getElem_mem hi)
    refine Ev.step (fun k => by rw [feature_Format.l1]) (ev_pos (by omega) (ev_pos (by omega) (ev_pos (by omega) ?_)))
    rw [rd_nat hi]
    have s1 : (l[i] ++ (⟨#[124]⟩ : ByteArray)).size = l[i].size + 1 := by rw [ByteArray.size_append]; rfl
    have s2 : (out ++ (l[i] ++ (⟨#[124]⟩ : ByteArray))).size = out.size + (l[i].size + 1) := by rw [ByteArray.size_append, s1]
    rw [s1, s2]
    refine ev_pos (by omega) (ev_pos (by omega) ?_)
    have ht : tailT (l.drop i) = bl l[i] ++ 124 :: tailT (l.drop (i + 1)) := by rw [List.drop_eq_getElem_cons hi, tailT]
    have htl : (tailT (l.drop i)).length = l[i].size + 1 + (tailT (l.drop (i + 1))).length := by rw [ht, List.length_append, List.length_cons, bl_length]; omega
    by_cases h : ((out.size + (l[i].size + 1) : Nat) : Int) > 120
    · refine ev_pos h (ev_now ?_)
      rw [if_pos (by omega)]
    · refine ev_neg h ?_
      rw [wrap_up i (by omega)]
      refine ev_eq (ih (i + 1) _ (by omega) (by rw [s2]; omega)) ?_
      rw [s2, htl]
      have e : out.size + (l[i].size + 1) + (tailT (l.drop (i + 1))).length = out.size + (l[i].size + 1 + (tailT (l.drop (i + 1))).length) := by omega
      rw [e]
      have e2 : bl (out ++ (l[i] ++ (⟨#[124]⟩ : ByteArray))) ++ tailT (l.drop (i + 1)) = bl out ++ tailT (l.drop i) := by
        rw [bl_append, bl_append, ht]
        show bl out ++ (bl l[i] ++ [124]) ++ _ = _
        simp
      rw [e2]
/-- What is left of Format behind its first loop. -/
def FMof (r : List ByteArray × Int) : ByteArray × Int := if r.2 ≠ 0 then (⟨#[]⟩, r.2) else if 120 < (text r.1).size then (⟨#[]⟩, 2) else (text r.1, 0)
theorem insB_small {acc : List ByteArray} {f : ByteArray} (h : ∀ g ∈ acc, g.size ≤ 120) (hf : f.size ≤ 120) : ∀ g ∈ insB acc f, g.size ≤ 120 := fun g hg => (mem_insB.1 hg).elim (h g) (fun e => e ▸ hf)
theorem format_l0 (m : List ByteArray) (hm : m.length ≤ 1073741824) : ∀ (d i : Nat) (acc : List ByteArray), i + d = m.length → SS acc → acc.length ≤ i → (∀ g ∈ acc, g.size ≤ 120) →
    Ev (fun k => feature_Format.l0 k acc m (m.length : Int) (i : Int)) (FMof (fmGo (m.drop i) acc)) := by
  intro d
  induction d with
  | zero =>
    intro i acc hd hs ha hz
    refine Ev.step (fun k => by rw [feature_Format.l0]) (ev_neg (by omega) ?_)
    rw [List.drop_eq_nil_of_le (by omega), fmGo]
    refine ev_eq (format_l1 acc (by omega) hz acc.length 0 (⟨#[124]⟩ : ByteArray) (by omega) (by decide)) ?_
    unfold FMof
    simp only [ne_eq, not_true_eq_false, if_false]
    rw [size_text]
    rfl
  | succ d ih =>
    intro i acc hd hs ha hz
    have hi : i < m.length := by omega
    refine Ev.step (fun k => by rw [feature_Format.l0]) (ev_pos (by omega) (ev_pos (by omega) (ev_pos (by omega) ?_)))
    rw [rd_nat hi, List.drop_eq_getElem_cons hi, fmGo]
    unfold markup_ValidValue.f
    refine ev_some ?_
    by_cases h0 : vv m[i] = 0
    · refine ev_pos h0 ?_
      rw [if_neg (by simp [h0]), toList_bl]
      by_cases h1 : bl m[i] = []
      · refine ev_pos h1 (ev_now ?_)
        rw [if_pos (.inl h1)]; rfl
      · refine ev_neg h1 ?_
        rw [strings_ev]
        refine ev_some ?_
        by_cases h2 : (124 : UInt8) ∈ bl m[i]
        · refine ev_pos (by simp [h2]) (ev_now ?_)
          rw [if_pos (.inr h2)]; rfl
        · refine ev_neg (by simp [h2]) ?_
          rw [if_neg (by simp [h1, h2])]
          refine Ev.bind (insert_ev acc m[i] (by omega) hs) ?_
          rw [wrap_up i (by omega)]
          exact ih (i + 1) _ (by omega) (ss_insB hs) (by have := insB_length acc m[i]; omega) (insB_small hz (vv_zero.1 h0).1)
    · refine ev_neg h0 (ev_now ?_)
      rw [if_pos h0]
      unfold FMof
      rw [if_pos h0]
theorem format_ev (m : List ByteArray) (hm : m.length ≤ 1073741824) : Ev (fun k => feature_Format.f k m) (FM m) :=
  format_l0 m hm m.length 0 [] (by omega) List.Pairwise.nil (by simp) (by simp)
end Go.Proofs.Ytcgglamgemgeiaa.Q
/- FFeatureIntersect -/
namespace Go.Proofs.Ytcgglamgemgeiaa.Q
open Go.RowKit Go.Proofs.YtcgglamgemgeiaaW.PrintWords Go.Proofs.YtcgglamgemgeiaaW.PrintLast Go.Proofs.YtcgglamgemgeiaaW.PrintMore
attribute [local go_sem] max2_int min2_int max_two min_two max_three min_three max_four min_four   -- for this text's walks alone
set_option linter.unusedVariables false
set_option linter.unusedSimpArgs false

/-! ### feature_Intersect: function 21 -/
def feature_Intersect.l0 : Nat → List (List ByteArray) → List ByteArray → List ByteArray → Int → Int → Option (ByteArray × Int)
  | 0, _, _, _, _, _ => none
  | k + 1, x6, x8, x23, x24, x25 => if x25 < x24 then (if 0 ≤ x25 then (if x25 < (x23.length : Int) then (if 1 < (x6.length : Int) then ((feature_contains.f k (rd_L1 x6 1) (rdOf ByteArray.empty x23 x25)).bind fun t349 => (if t349 = true then (if x8.length < 8796093022208 then (feature_Intersect.l0 k x6 (x8 ++ [rdOf ByteArray.empty x23 x25]) x23 x24 (wrap64 (x25 + 1))) else (none)) else (feature_Intersect.l0 k x6 x8 x23 x24 (wrap64 (x25 + 1))))) else (none)) else (none)) else (none)) else ((feature_Format.f k x8).bind fun bt353 => (some (bt353.1, bt353.2)))
def feature_Intersect.f (k : Nat) (a0 : ByteArray) (a1 : ByteArray) : Option (ByteArray × Int) := (feature_parseAll.f k (([a0, a1] : List ByteArray))).bind fun bt342 => (if bt342.2 = 0 then (if 0 < (bt342.1.length : Int) then (feature_Intersect.l0 k bt342.1 ([] : List ByteArray) (rd_L1 bt342.1 0) ((rd_L1 bt342.1 0).length : Int) 0) else (none)) else (some ((⟨#[]⟩ : ByteArray), bt342.2)))
theorem feature_Intersect.mono_l : ∀ k, (∀ y0 y1 y2 y3 y4, LeO (feature_Intersect.l0 k y0 y1 y2 y3 y4) (feature_Intersect.l0 (k + 1) y0 y1 y2 y3 y4))
  | 0 => fun _ _ _ _ _ r h => by simp [feature_Intersect.l0] at h
  | k + 1 => by
    have ih0 := feature_Intersect.mono_l k
    · intro y0 y1 y2 y3 y4
      unfold feature_Intersect.l0
      repeat' first
      | (with_reducible exact ih0 _ _ _ _ _)
      | (with_reducible exact feature_Format.mono _ _)
      | (with_reducible exact feature_contains.mono _ _ _)
      | (with_reducible exact feature_parseAll.mono _ _)
      | (with_reducible exact LeO.refl _)
      | (with_reducible exact LeO.none _)
      | (with_reducible refine LeO.ite ?_ ?_)
      | (with_reducible refine LeO.bind ?_ (fun _ => ?_))
      | exact ih0 _ _ _ _ _
      | exact feature_Format.mono _ _
      | exact feature_contains.mono _ _ _
      | exact feature_parseAll.mono _ _
      | exact LeO.none _
      | refine LeO.ite ?_ ?_
      | refine LeO.bind ?_ (fun _ => ?_)
theorem feature_Intersect.mono : ∀ a0 a1 k, LeO (feature_Intersect.f k a0 a1) (feature_Intersect.f (k + 1) a0 a1) := by
  intro a0 a1 k
  have ih0 := feature_Intersect.mono_l k
  unfold feature_Intersect.f
  repeat' first
      | (with_reducible exact ih0 _ _ _ _ _)
      | (with_reducible exact feature_Format.mono _ _)
      | (with_reducible exact feature_contains.mono _ _ _)
      | (with_reducible exact feature_parseAll.mono _ _)
      | (with_reducible exact LeO.refl _)
      | (with_reducible exact LeO.none _)
      | (with_reducible refine LeO.ite ?_ ?_)
      | (with_reducible refine LeO.bind ?_ (fun _ => ?_))
      | exact ih0 _ _ _ _ _
      | exact feature_Format.mono _ _
      | exact feature_contains.mono _ _ _
      | exact feature_parseAll.mono _ _
      | exact LeO.none _
      | refine LeO.ite ?_ ?_
      | refine LeO.bind ?_ (fun _ => ?_)
set_option maxHeartbeats 8000000 in
set_option maxRecDepth 100000 in
theorem feature_Intersect.calls (k : Nat) (a0 : ByteArray) (a1 : ByteArray) (r1 : ByteArray) (r2 : Int) (w : World) (h : feature_Intersect.f k a0 a1 = some (r1, r2)) :
    Calls Try.prog 21 #[.string a0, .string a1] w fun e w' => e = .returned (.tuple #[.string r1, .int .i64 r2]) ∧ Below w.heap.size w w' := by
  have HB := Aside0.mk (Below.refl w.heap.size w)
  have H : ((feature_parseAll.f k (([a0, a1] : List ByteArray))).bind fun bt342 => (if bt342.2 = 0 then (if 0 < (bt342.1.length : Int) then (feature_Intersect.l0 k bt342.1 ([] : List ByteArray) (rd_L1 bt342.1 0) ((rd_L1 bt342.1 0).length : Int) 0) else (none)) else (some ((⟨#[]⟩ : ByteArray), bt342.2)))) = some (r1, r2) := h
  clear h
  obtain ⟨y339, hy339⟩ : ∃ y_ : List ByteArray, y_ = (([a0, a1] : List ByteArray)) := ⟨_, rfl⟩
  replace H : ((feature_parseAll.f k y339).bind fun bt342 => (if bt342.2 = 0 then (if 0 < (bt342.1.length : Int) then (feature_Intersect.l0 k bt342.1 ([] : List ByteArray) (rd_L1 bt342.1 0) ((rd_L1 bt342.1 0).length : Int) 0) else (none)) else (some ((⟨#[]⟩ : ByteArray), bt342.2)))) = some (r1, r2) := by first | (rw [hy339]; with_reducible exact H) | (have H2_ := (Option.bind_some _ _).symm.trans H; rw [hy339]; with_reducible exact H2_) | (have H2_ := (Option.bind_some _ _).symm.trans H; with_reducible exact H2_) | with_reducible exact H | (rw [hy339]; exact H) | exact H
  have Ny339 := Aside0.mk hy339
  clear hy339
  replace H := Option.bind_eq_some_iff.mp H
  obtain ⟨⟨t342, t343⟩, A30, H⟩ := H
  replace H : (if t343 = 0 then (if 0 < (t342.length : Int) then (feature_Intersect.l0 k t342 ([] : List ByteArray) (rd_L1 t342 0) ((rd_L1 t342 0).length : Int) 0) else (none)) else (some ((⟨#[]⟩ : ByteArray), t343))) = some (r1, r2) := H
  have A3 := Aside0.mk A30
  clear A30
  by_cases c4 : t343 = 0
  · rw [if_pos c4] at H
    have c4b0 : (t343 == 0) = true := beq_iff_eq.mpr c4
    have c4b1 : (t343 != 0) = false := bne_eq_false_iff_eq.mpr c4
    clear c4
    by_cases c5 : 0 < (t342.length : Int)
    · rw [if_pos c5] at H
      have c5b0 : decide (0 < (t342.length : Int)) = true := decide_eq_true c5
      have c5b1 : decide (0 < t342.length) = true := decide_eq_true (by omega)
      clear c5
      have H' := Aside0.mk H
      clear H
      go_enter Try.func21, Try.ntmps21
      go_wp2_with (first | ((with_reducible refine gate_dst (N := 14) rfl ?_); refine Kd.R_lit Kd.string _ 9 ?hg (N := 14) ?hd (xs := ([a0, a1] : List ByteArray)) (inner := [.string a0, .string a1]) (ok := fun _ => True) (okp := fun _ => True) ?hr ?hp (fun _ hk => hk) trivial (Below.refl _ _) (Nat.le_refl _) (by simp) ?_; (case hd => rfl); (case hg => rfl); (case hr => first | (go_simp; done) | (go_simp; rfl)); (case hp => exact (Reps.one (show Kd.M Kd.string _ _ _ a0 [.string a0] from rfl) (Reps.one (show Kd.M Kd.string _ _ _ a1 [.string a1] from rfl) (Reps.none _ _)))); intro v340 w6 ho7 hb hg_ hnew_; clear hg_ hnew_; (first | rw [← Ny339.out] at ho7 | (simp only [Int.reduceToNat] at ho7; rw [← Ny339.out] at ho7)); have n0_ := Aside0.mk (Kd.R_lower ho7 (below_size (by repeat (first | (with_reducible first | exact HB.out | apply below_alloc | apply pw_below_drewN | apply below_drew1) | exact HB.out)))); have n1_ := Aside0.mk (below_step (by repeat (first | (with_reducible first | exact HB.out | apply below_alloc | apply pw_below_drewN | apply below_drew1) | exact HB.out)) hb); clear HB; have HO341 := n0_; have HB := n1_; clear n0_ n1_; clear hb ho7; obtain ⟨Ao8, co8, eo8⟩ := Kd.R_slice HO341.out; subst eo8) | ((with_reducible refine gate_callee (f := 35) rfl ?_); refine goesL_ (some 15) rfl rfl Try.func35 (by kernel_rfl) rfl #[.slice Ao8 y339.length co8] rfl (by (try simp only [List.map_toArray, List.map_cons, List.map_nil]); first | done | rfl | (simp only [List.length_drop, List.length_take]; rfl)) ?_; (with_reducible refine (feature_parseAll.calls k _ _ y339 t342 t343 _ ?side1 ?side2 A3.out).mono ?_); (case side1 => repeat (first | exact (Kd.R_reads' HO341.out).2.2 | (with_reducible refine Kd.C_alloc ?_ _) | (with_reducible refine Kd.C_drewN ?_ _) | (with_reducible refine Kd.C_drew ?_))); (case side2 => exact (Kd.R_reads' HO341.out).2.1); rintro e w9 ⟨v344, rfl, ho0, hb⟩; refine ⟨_, rfl, ?_⟩; have n0_ := Aside0.mk (Kd.R_below (by (with_reducible repeat (first | apply Kd.R_alloc | apply Kd.R_drewN | apply Kd.R_drew)); exact HO341.out) hb); have n1_ := Aside0.mk (Kd.S_lower (Kd.S_new' ho0 (Kd.R_lt (by (with_reducible repeat (first | apply Kd.R_alloc | apply Kd.R_drewN | apply Kd.R_drew)); exact HO341.out))) (below_size (by repeat (first | (with_reducible first | exact HB.out | apply below_alloc | apply pw_below_drewN | apply below_drew1) | exact HB.out)))); have n2_ := Aside0.mk (below_step (by repeat (first | (with_reducible first | exact HB.out | apply below_alloc | apply pw_below_drewN | apply below_drew1) | exact HB.out)) hb); clear HO341; clear HB; have HO341 := n0_; have HO345 := n1_; have HB := n2_; clear n0_ n1_ n2_; (try clear hb); (try clear hb2); (try clear hk); (try clear hi); (try clear ho0); obtain ⟨Ao10, co10, eo10⟩ := Kd.S_slice HO345.out; subst eo10; have p346 : 0 ≤ (0 : Int) := (by omega); have q346 : 0 < (t342.length : Int) := of_decide_eq_true (by first | (with_reducible assumption) | assumption); obtain ⟨ad346, A346_0, c346_0, e346, hx346_0, hl346_0, hi346_0⟩ := at_L1 (Kd.S_reads' HO345.out).2.2 0 p346 q346; cases e346; obtain ⟨ce346, hce346, hMe346, hcc346⟩ := Kd.S_get HO345.out [] 0 p346 (by first | exact q346 | exact of_decide_eq_true (by first | (with_reducible assumption) | assumption) | (have e_ := (Kd.S_reads' HO345.out).1; omega)); obtain ⟨ve346_0, rfl, ge346_0⟩ := hMe346; have hv346_0 := hcc346 0 _ rfl; rw [Nat.add_zero, show ((Kd.slice 9 Kd.string)).sz = 1 from rfl, Nat.mul_one] at hv346_0; replace hv346_0 := Option.some.inj (hv346_0.symm.trans hx346_0); rw [hv346_0] at ge346_0; have HL346_0 := Aside0.mk (show Kd.R Kd.string 9 _ _ _ _ (rd_L1 t342 0) from ge346_0); clear hv346_0 ge346_0; clear hcc346 hce346; have qi346 : (0 < t342.length) = True := eq_true (by omega); (try rw [show ((0 : Int)).toNat = 0 from rfl] at hx346_0); (try rw [Addr.add_zero'] at hx346_0); have HR346_0 := Aside0.mk hi346_0; have HC346_0 := Aside0.mk hl346_0; clear hi346_0 hl346_0; replace p346 := eq_true p346; replace q346 := eq_true q346))
      have HB0_ := HB
      go_loopg [8, 25] k (fun kq v8 v25 w' => ∃ (x8_1 : List ByteArray) (x25_1 : Int), v25 = .int .i64 x25_1 ∧ Aside0 (feature_Intersect.l0 kq t342 x8_1 (rd_L1 t342 0) ((rd_L1 t342 0).length : Int) x25_1 = some (r1, r2)) ∧ Aside0 (kq ≤ k) ∧ Aside0 (Kd.S (Kd.slice 9 Kd.string) 23 w' w.heap.size (fun k_ => some k_ ≠ (v8 : Value).ownBlock) (.slice (some ad346) t342.length co10) t342) ∧ Aside0 (Kd.R Kd.string 9 w' w9.heap.size (fun _ => True) v8 x8_1) ∧ Aside0 (Below w9.heap.size w9 w'))
      case atStart => exact ⟨(([] : List ByteArray)), (0), (by first | rfl | (simp; done) | (simp [*]; done)), H', ⟨Nat.le_refl _⟩, ⟨by (with_reducible repeat (first | apply Kd.S_alloc | apply Kd.S_drewN | apply Kd.S_drew)); exact Kd.S_mono HO345.out (fun _ hk => (by simp [Value.ownBlock]))⟩, ⟨by first | exact Kd.R_nil _ _ _ _ _ | exact Kd.N_nil _ _ _ _ _ | exact Kd.V_nil _ _ _ _ _ | exact Kd.Q_nil _ _ _ _ _ | exact Kd.S_nil _ _ _ _ _⟩, ⟨Below.refl _ _⟩⟩
      case round =>
        clear H'
        try clear c2
        try clear p2
        try clear c3
        try clear p3
        try clear q3
        try clear hx3
        try clear qi3
        try clear c4
        try clear c4b0
        try clear c4b1
        try clear c5
        try clear c5b0
        try clear c5b1
        try clear hx346_0
        try clear p346
        try clear q346
        obtain ⟨x8_1, x25_1, rfl, HA, HK1, HO_6, HO_8, HB⟩ := hrel
        cases gk with
        | zero => exact absurd HA.out (by simp [feature_Intersect.l0])
        | succ k1 =>
          have H := HA.out
          clear HA
          simp only [feature_Intersect.l0] at H
          by_cases c11 : x25_1 < ((rd_L1 t342 0).length : Int)
          · rw [if_pos c11] at H
            have c11b0 : decide (x25_1 < ((rd_L1 t342 0).length : Int)) = true := decide_eq_true c11
            clear c11
            by_cases c12 : 0 ≤ x25_1
            · rw [if_pos c12] at H
              have c12b0 : decide (0 ≤ x25_1) = true := decide_eq_true c12
              clear c12
              by_cases c13 : x25_1 < ((rd_L1 t342 0).length : Int)
              · rw [if_pos c13] at H
                have c13b0 : decide (x25_1 < ((rd_L1 t342 0).length : Int)) = true := decide_eq_true c13
                clear c13
                by_cases c14 : 1 < (t342.length : Int)
                · rw [if_pos c14] at H
                  have c14b0 : decide (1 < (t342.length : Int)) = true := decide_eq_true c14
                  have c14b1 : decide (1 < t342.length) = true := decide_eq_true (by omega)
                  clear c14
                  replace H := Option.bind_eq_some_iff.mp H
                  obtain ⟨t349, A150, H⟩ := H
                  replace H : (if t349 = true then (if x8_1.length < 8796093022208 then (feature_Intersect.l0 k1 t342 (x8_1 ++ [rdOf ByteArray.empty (rd_L1 t342 0) x25_1]) (rd_L1 t342 0) ((rd_L1 t342 0).length : Int) (wrap64 (x25_1 + 1))) else (none)) else (feature_Intersect.l0 k1 t342 x8_1 (rd_L1 t342 0) ((rd_L1 t342 0).length : Int) (wrap64 (x25_1 + 1)))) = some (r1, r2) := H
                  have A15 := Aside0.mk A150
                  clear A150
                  by_cases c16 : t349 = true
                  · subst c16
                    have H1 : (if x8_1.length < 8796093022208 then (feature_Intersect.l0 k1 t342 (x8_1 ++ [rdOf ByteArray.empty (rd_L1 t342 0) x25_1]) (rd_L1 t342 0) ((rd_L1 t342 0).length : Int) (wrap64 (x25_1 + 1))) else (none)) = some (r1, r2) := by rw [if_pos rfl] at H; exact H
                    clear H
                    have H := H1
                    clear H1
                    by_cases c17 : x8_1.length < 8796093022208
                    · rw [if_pos c17] at H
                      have LMc17 := Aside0.mk c17
                      clear c17
                      obtain ⟨y350, hy350⟩ : ∃ y_ : List ByteArray, y_ = (x8_1 ++ [rdOf ByteArray.empty (rd_L1 t342 0) x25_1]) := ⟨_, rfl⟩
                      replace H : (feature_Intersect.l0 k1 t342 y350 (rd_L1 t342 0) ((rd_L1 t342 0).length : Int) (wrap64 (x25_1 + 1))) = some (r1, r2) := by first | (rw [hy350]; with_reducible exact H) | (have H2_ := (Option.bind_some _ _).symm.trans H; rw [hy350]; with_reducible exact H2_) | (have H2_ := (Option.bind_some _ _).symm.trans H; with_reducible exact H2_) | with_reducible exact H | (rw [hy350]; exact H) | exact H
                      have Ny350 := Aside0.mk hy350
                      clear hy350
                      have H' := Aside0.mk H
                      clear H
                      have p347 : 0 ≤ (x25_1 : Int) := of_decide_eq_true (by first | (with_reducible assumption) | assumption)
                      have q347 : x25_1 < ((rd_L1 t342 0).length : Int) := of_decide_eq_true (by first | (with_reducible assumption) | assumption)
                      obtain ⟨ad347, e347, hx347_0⟩ := Kd.at_string HR346_0.out x25_1 p347 q347
                      cases e347
                      replace hx347_0 := (HB.out.cell (World.block_lt_of_cell? w9 _ hx347_0)).trans hx347_0
                      replace p347 := eq_true p347
                      replace q347 := eq_true q347
                      have p348 : 0 ≤ (1 : Int) := (by omega)
                      have q348 : 1 < (t342.length : Int) := of_decide_eq_true (by first | (with_reducible assumption) | assumption)
                      obtain ⟨ad348, A348_0, c348_0, e348, hx348_0, hl348_0, hi348_0⟩ := at_L1 (Kd.S_reads' HO_6.out).2.2 1 p348 q348
                      obtain rfl : ad346 = ad348 := (by injection e348)
                      obtain ⟨ce348, hce348, hMe348, hcc348⟩ := Kd.S_get HO_6.out [] 1 p348 (by first | exact q348 | exact of_decide_eq_true (by first | (with_reducible assumption) | assumption) | (have e_ := (Kd.S_reads' HO_6.out).1; omega))
                      obtain ⟨ve348_0, rfl, ge348_0⟩ := hMe348
                      have hv348_0 := hcc348 0 _ rfl
                      rw [Nat.add_zero, show ((Kd.slice 9 Kd.string)).sz = 1 from rfl, Nat.mul_one] at hv348_0
                      replace hv348_0 := Option.some.inj (hv348_0.symm.trans hx348_0)
                      rw [hv348_0] at ge348_0
                      have HL348_0 := Aside0.mk (show Kd.R Kd.string 9 _ _ _ _ (rd_L1 t342 1) from ge348_0)
                      clear hv348_0 ge348_0
                      clear hcc348 hce348
                      (try simp only [show (1 : Int).toNat = 1 from rfl, Nat.reduceMul, Nat.reduceEqDiff, Go.Addr.add, ↓reduceIte] at hx348_0)
                      have qi348 : (1 < t342.length) = True := eq_true (by omega)
                      (try rw [show ((1 : Int)).toNat = 1 from rfl] at hx348_0)
                      have HR348_0 := Aside0.mk hi348_0
                      have HC348_0 := Aside0.mk hl348_0
                      clear hi348_0 hl348_0
                      replace p348 := eq_true p348
                      replace q348 := eq_true q348
                      go_wp2_with (first | ((with_reducible refine gate_callee (f := 33) rfl ?_); refine goesL_ (some 33) rfl rfl Try.func33 (by kernel_rfl) rfl #[.slice A348_0 (rd_L1 t342 1).length c348_0, .string (rdOf ByteArray.empty (rd_L1 t342 0) x25_1)] rfl (by (try simp only [List.map_toArray, List.map_cons, List.map_nil]); first | done | rfl | (simp only [List.length_drop, List.length_take]; rfl)) ?_; (with_reducible refine (feature_contains.calls k1 _ _ (rd_L1 t342 1) (rdOf ByteArray.empty (rd_L1 t342 0) x25_1) true _ ?side1 ?side2 A15.out).mono ?_); (case side1 => repeat (first | exact (by repeat (first | (with_reducible exact HR348_0.out) | (with_reducible refine Kd.C_alloc ?_ _) | (with_reducible refine Kd.C_drewN ?_ _) | (with_reducible refine Kd.C_drew ?_) | exact HR348_0.out)) | (with_reducible refine Kd.C_alloc ?_ _) | (with_reducible refine Kd.C_drewN ?_ _) | (with_reducible refine Kd.C_drew ?_))); (case side2 => exact HC348_0.out); rintro e w' ⟨rfl, ⟨nd, rfl⟩⟩; refine ⟨_, rfl, ?_⟩) | ((with_reducible refine gate_builtin (b := .append) (xs := #[.tmp 34, .tmp 36]) rfl ?_); at_builtin; refine Kd.R_append Kd.string (w0 := w9) w9.heap.size rfl (.tmp 34) (.tmp 36) 23 9 (.string ⟨#[]⟩) 16 rfl Try.underlying23 info9 rfl (by decide) (by omega) u8 x8_1 (rdOf ByteArray.empty (rd_L1 t342 0) x25_1) [.string (rdOf ByteArray.empty (rd_L1 t342 0) x25_1)] (fun _ => True) (fun _ => False) rfl rfl ?aP (fun _ hk => hk.elim) ?aF ?aO ?aB ?aS ?aL ?_; (case aP => exact rfl); (case aB => exact (by repeat (first | (with_reducible first | exact HB.out | apply below_alloc | apply pw_below_drewN | apply below_drew1) | exact HB.out))); (case aF => exact (fun _ _ => trivial)); (case aO => exact (by (with_reducible repeat (first | apply Kd.R_alloc | apply Kd.R_drewN | apply Kd.R_drew)); exact HO_8.out)); (case aS => exact (below_size (by repeat (first | (with_reducible first | exact HB.out | apply below_alloc | apply pw_below_drewN | apply below_drew1) | exact HB.out)))); (case aL => have := LMc17.out; omega); intro v351 w18 ho hb hg hat; rw [← Ny350.out] at ho; have n0_ := Aside0.mk (Kd.S_after (ok := (fun _ => True)) (by (with_reducible repeat (first | apply Kd.S_alloc | apply Kd.S_drewN | apply Kd.S_drew)); exact Kd.S_mono HO_6.out (fun _ hk => ⟨trivial, hk⟩)) hg hat); have n1_ := Aside0.mk (Kd.R_after (ok := (fun k_ => some k_ ≠ (.slice (some ad346) t342.length co10 : Value).ownBlock)) (by (with_reducible repeat (first | apply Kd.R_alloc | apply Kd.R_drewN | apply Kd.R_drew)); exact Kd.R_mono HL348_0.out (fun _ hk => ⟨hk.2, hk.1⟩)) hg hat); have n2_ := Aside0.mk (hb); have n3_ := Aside0.mk (ho); clear HO_6; clear HL348_0; clear HB; clear HO_8; have HO_6 := n0_; have HL348_0 := n1_; have HB := n2_; have HO352 := n3_; clear n0_ n1_ n2_ n3_; clear ho hb hg hat))
                      go_roundg k1
                      case measure => have := HK1.out; omega
                      case rel => exact ⟨(y350), (wrap64 (x25_1 + 1)), (by first | rfl | (simp; done) | (simp [*]; done)), H', ⟨by have := HK1.out; omega⟩, ⟨by (with_reducible repeat (first | apply Kd.S_alloc | apply Kd.S_drewN | apply Kd.S_drew)); exact Kd.S_mono HO_6.out (fun _ hk => hk.2)⟩, ⟨by (with_reducible repeat (first | apply Kd.R_alloc | apply Kd.R_drewN | apply Kd.R_drew)); exact HO352.out⟩, ⟨by repeat (first | (with_reducible first | exact HB.out | apply below_alloc | apply pw_below_drewN | apply below_drew1) | exact HB.out)⟩⟩
                    · rw [if_neg c17] at H
                      exact absurd H (by simp)
                  · replace c16 := Bool.eq_false_iff.mpr c16
                    subst c16
                    have H1 : (feature_Intersect.l0 k1 t342 x8_1 (rd_L1 t342 0) ((rd_L1 t342 0).length : Int) (wrap64 (x25_1 + 1))) = some (r1, r2) := by rw [if_neg (show ¬ (false = true) by decide)] at H; exact H
                    clear H
                    have H := H1
                    clear H1
                    have H' := Aside0.mk H
                    clear H
                    have p347 : 0 ≤ (x25_1 : Int) := of_decide_eq_true (by first | (with_reducible assumption) | assumption)
                    have q347 : x25_1 < ((rd_L1 t342 0).length : Int) := of_decide_eq_true (by first | (with_reducible assumption) | assumption)
                    obtain ⟨ad347, e347, hx347_0⟩ := Kd.at_string HR346_0.out x25_1 p347 q347
                    cases e347
                    replace hx347_0 := (HB.out.cell (World.block_lt_of_cell? w9 _ hx347_0)).trans hx347_0
                    replace p347 := eq_true p347
                    replace q347 := eq_true q347
                    have p348 : 0 ≤ (1 : Int) := (by omega)
                    have q348 : 1 < (t342.length : Int) := of_decide_eq_true (by first | (with_reducible assumption) | assumption)
                    obtain ⟨ad348, A348_0, c348_0, e348, hx348_0, hl348_0, hi348_0⟩ := at_L1 (Kd.S_reads' HO_6.out).2.2 1 p348 q348
                    obtain rfl : ad346 = ad348 := (by injection e348)
                    obtain ⟨ce348, hce348, hMe348, hcc348⟩ := Kd.S_get HO_6.out [] 1 p348 (by first | exact q348 | exact of_decide_eq_true (by first | (with_reducible assumption) | assumption) | (have e_ := (Kd.S_reads' HO_6.out).1; omega))
                    obtain ⟨ve348_0, rfl, ge348_0⟩ := hMe348
                    have hv348_0 := hcc348 0 _ rfl
                    rw [Nat.add_zero, show ((Kd.slice 9 Kd.string)).sz = 1 from rfl, Nat.mul_one] at hv348_0
                    replace hv348_0 := Option.some.inj (hv348_0.symm.trans hx348_0)
                    rw [hv348_0] at ge348_0
                    have HL348_0 := Aside0.mk (show Kd.R Kd.string 9 _ _ _ _ (rd_L1 t342 1) from ge348_0)
                    clear hv348_0 ge348_0
                    clear hcc348 hce348
                    (try simp only [show (1 : Int).toNat = 1 from rfl, Nat.reduceMul, Nat.reduceEqDiff, Go.Addr.add, ↓reduceIte] at hx348_0)
                    have qi348 : (1 < t342.length) = True := eq_true (by omega)
                    (try rw [show ((1 : Int)).toNat = 1 from rfl] at hx348_0)
                    have HR348_0 := Aside0.mk hi348_0
                    have HC348_0 := Aside0.mk hl348_0
                    clear hi348_0 hl348_0
                    replace p348 := eq_true p348
                    replace q348 := eq_true q348
                    go_wp2_with (first | ((with_reducible refine gate_callee (f := 33) rfl ?_); refine goesL_ (some 33) rfl rfl Try.func33 (by kernel_rfl) rfl #[.slice A348_0 (rd_L1 t342 1).length c348_0, .string (rdOf ByteArray.empty (rd_L1 t342 0) x25_1)] rfl (by (try simp only [List.map_toArray, List.map_cons, List.map_nil]); first | done | rfl | (simp only [List.length_drop, List.length_take]; rfl)) ?_; (with_reducible refine (feature_contains.calls k1 _ _ (rd_L1 t342 1) (rdOf ByteArray.empty (rd_L1 t342 0) x25_1) false _ ?side1 ?side2 A15.out).mono ?_); (case side1 => repeat (first | exact (by repeat (first | (with_reducible exact HR348_0.out) | (with_reducible refine Kd.C_alloc ?_ _) | (with_reducible refine Kd.C_drewN ?_ _) | (with_reducible refine Kd.C_drew ?_) | exact HR348_0.out)) | (with_reducible refine Kd.C_alloc ?_ _) | (with_reducible refine Kd.C_drewN ?_ _) | (with_reducible refine Kd.C_drew ?_))); (case side2 => exact HC348_0.out); rintro e w' ⟨rfl, ⟨nd, rfl⟩⟩; refine ⟨_, rfl, ?_⟩))
                    go_roundg k1
                    case measure => have := HK1.out; omega
                    case rel => exact ⟨(x8_1), (wrap64 (x25_1 + 1)), (by first | rfl | (simp; done) | (simp [*]; done)), H', ⟨by have := HK1.out; omega⟩, ⟨by (with_reducible repeat (first | apply Kd.S_alloc | apply Kd.S_drewN | apply Kd.S_drew)); exact HO_6.out⟩, ⟨by (with_reducible repeat (first | apply Kd.R_alloc | apply Kd.R_drewN | apply Kd.R_drew)); exact HO_8.out⟩, ⟨by repeat (first | (with_reducible first | exact HB.out | apply below_alloc | apply pw_below_drewN | apply below_drew1) | exact HB.out)⟩⟩
                · rw [if_neg c14] at H
                  exact absurd H (by simp)
              · rw [if_neg c13] at H
                exact absurd H (by simp)
            · rw [if_neg c12] at H
              exact absurd H (by simp)
          · rw [if_neg c11] at H
            have c11b0 : decide (x25_1 < ((rd_L1 t342 0).length : Int)) = false := decide_eq_false c11
            clear c11
            replace H := Option.bind_eq_some_iff.mp H
            obtain ⟨⟨t353, t354⟩, A190, H⟩ := H
            replace H : (some (t353, t354)) = some (r1, r2) := H
            have A19 := Aside0.mk A190
            clear A190
            simp only [Option.some.injEq, Prod.mk.injEq] at H
            obtain ⟨rfl, rfl⟩ := H
            obtain ⟨Ao20, co20, eo20⟩ := Kd.R_slice HO_8.out
            subst eo20
            go_wp2_with (first | ((with_reducible refine gate_callee (f := 16) rfl ?_); refine goesL_ (some 40) rfl rfl Try.func16 (by kernel_rfl) rfl #[.slice Ao20 x8_1.length co20] rfl (by (try simp only [List.map_toArray, List.map_cons, List.map_nil]); first | done | rfl | (simp only [List.length_drop, List.length_take]; rfl)) ?_; (with_reducible refine (feature_Format.calls k1 _ _ x8_1 t353 t354 _ ?side1 ?side2 A19.out).mono ?_); (case side1 => repeat (first | exact (Kd.R_reads' HO_8.out).2.2 | (with_reducible refine Kd.C_alloc ?_ _) | (with_reducible refine Kd.C_drewN ?_ _) | (with_reducible refine Kd.C_drew ?_))); (case side2 => exact (Kd.R_reads' HO_8.out).2.1); rintro e w21 ⟨rfl, hb⟩; refine ⟨_, rfl, ?_⟩; have n0_ := Aside0.mk (Kd.S_below (by (with_reducible repeat (first | apply Kd.S_alloc | apply Kd.S_drewN | apply Kd.S_drew)); exact HO_6.out) hb); have n1_ := Aside0.mk (Kd.R_below (by (with_reducible repeat (first | apply Kd.R_alloc | apply Kd.R_drewN | apply Kd.R_drew)); exact HO_8.out) hb); have n2_ := Aside0.mk (below_step (by repeat (first | (with_reducible first | exact HB.out | apply below_alloc | apply pw_below_drewN | apply below_drew1) | exact HB.out)) hb); clear HO_6; clear HO_8; clear HB; have HO_6 := n0_; have HO_8 := n1_; have HB := n2_; clear n0_ n1_ n2_; (try clear hb); (try clear hb2); (try clear hk); (try clear hi)))
            go_ret2
            exact ⟨by first | rfl | (simp [errW_none, errW_some] <;> rfl) | (simp [*, errW_none, errW_some] <;> rfl), below_step HB0_.out HB.out⟩
    · rw [if_neg c5] at H
      exact absurd H (by simp)
  · rw [if_neg c4] at H
    have c4b0 : (t343 == 0) = false := beq_eq_false_iff_ne.mpr c4
    have c4b1 : (t343 != 0) = true := bne_iff_ne.mpr c4
    simp only [Option.some.injEq, Prod.mk.injEq] at H
    obtain ⟨rfl, rfl⟩ := H
    go_enter Try.func21, Try.ntmps21
    go_wp2_with (first | ((with_reducible refine gate_dst (N := 14) rfl ?_); refine Kd.R_lit Kd.string _ 9 ?hg (N := 14) ?hd (xs := ([a0, a1] : List ByteArray)) (inner := [.string a0, .string a1]) (ok := fun _ => True) (okp := fun _ => True) ?hr ?hp (fun _ hk => hk) trivial (Below.refl _ _) (Nat.le_refl _) (by simp) ?_; (case hd => rfl); (case hg => rfl); (case hr => first | (go_simp; done) | (go_simp; rfl)); (case hp => exact (Reps.one (show Kd.M Kd.string _ _ _ a0 [.string a0] from rfl) (Reps.one (show Kd.M Kd.string _ _ _ a1 [.string a1] from rfl) (Reps.none _ _)))); intro v340 w22 ho23 hb hg_ hnew_; clear hg_ hnew_; (first | rw [← Ny339.out] at ho23 | (simp only [Int.reduceToNat] at ho23; rw [← Ny339.out] at ho23)); have n0_ := Aside0.mk (Kd.R_lower ho23 (below_size (by repeat (first | (with_reducible first | exact HB.out | apply below_alloc | apply pw_below_drewN | apply below_drew1) | exact HB.out)))); have n1_ := Aside0.mk (below_step (by repeat (first | (with_reducible first | exact HB.out | apply below_alloc | apply pw_below_drewN | apply below_drew1) | exact HB.out)) hb); clear HB; have HO341 := n0_; have HB := n1_; clear n0_ n1_; clear hb ho23; obtain ⟨Ao24, co24, eo24⟩ := Kd.R_slice HO341.out; subst eo24) | ((with_reducible refine gate_callee (f := 35) rfl ?_); refine goesL_ (some 15) rfl rfl Try.func35 (by kernel_rfl) rfl #[.slice Ao24 y339.length co24] rfl (by (try simp only [List.map_toArray, List.map_cons, List.map_nil]); first | done | rfl | (simp only [List.length_drop, List.length_take]; rfl)) ?_; (with_reducible refine (feature_parseAll.calls k _ _ y339 t342 t343 _ ?side1 ?side2 A3.out).mono ?_); (case side1 => repeat (first | exact (Kd.R_reads' HO341.out).2.2 | (with_reducible refine Kd.C_alloc ?_ _) | (with_reducible refine Kd.C_drewN ?_ _) | (with_reducible refine Kd.C_drew ?_))); (case side2 => exact (Kd.R_reads' HO341.out).2.1); rintro e w25 ⟨v344, rfl, ho0, hb⟩; refine ⟨_, rfl, ?_⟩; have n0_ := Aside0.mk (Kd.R_below (by (with_reducible repeat (first | apply Kd.R_alloc | apply Kd.R_drewN | apply Kd.R_drew)); exact HO341.out) hb); have n1_ := Aside0.mk (Kd.S_lower (Kd.S_new' ho0 (Kd.R_lt (by (with_reducible repeat (first | apply Kd.R_alloc | apply Kd.R_drewN | apply Kd.R_drew)); exact HO341.out))) (below_size (by repeat (first | (with_reducible first | exact HB.out | apply below_alloc | apply pw_below_drewN | apply below_drew1) | exact HB.out)))); have n2_ := Aside0.mk (below_step (by repeat (first | (with_reducible first | exact HB.out | apply below_alloc | apply pw_below_drewN | apply below_drew1) | exact HB.out)) hb); clear HO341; clear HB; have HO341 := n0_; have HO345 := n1_; have HB := n2_; clear n0_ n1_ n2_; (try clear hb); (try clear hb2); (try clear hk); (try clear hi); (try clear ho0)))
    go_ret2
    exact ⟨by first | rfl | (simp [errW_none, errW_some] <;> rfl) | (simp [*, errW_none, errW_some] <;> rfl), by repeat (first | (with_reducible first | exact HB.out | apply below_alloc | apply pw_below_drewN | apply below_drew1) | exact HB.out)⟩

end Go.Proofs.Ytcgglamgemgeiaa.Q
/- FFeatureSubset -/
namespace Go.Proofs.Ytcgglamgemgeiaa.Q
open Go.RowKit Go.Proofs.YtcgglamgemgeiaaW.PrintWords Go.Proofs.YtcgglamgemgeiaaW.PrintLast Go.Proofs.YtcgglamgemgeiaaW.PrintMore
attribute [local go_sem] max2_int min2_int max_two min_two max_three min_three max_four min_four   -- for this text's walks alone
set_option linter.unusedVariables false
set_option linter.unusedSimpArgs false

/-! ### feature_Subset: function 24 -/
def feature_Subset.l0 : Nat → List (List ByteArray) → List ByteArray → Int → Int → Option (Bool × Int)
  | 0, _, _, _, _ => none
  | k + 1, x6, x22, x23, x24 => if x24 < x23 then (if 0 ≤ x24 then (if x24 < (x22.length : Int) then (if 1 < (x6.length : Int) then ((feature_contains.f k (rd_L1 x6 1) (rdOf ByteArray.empty x22 x24)).bind fun t423 => (if t423 = true then (feature_Subset.l0 k x6 x22 x23 (wrap64 (x24 + 1))) else (some (false, 0)))) else (none)) else (none)) else (none)) else (some (true, 0))
def feature_Subset.f (k : Nat) (a0 : ByteArray) (a1 : ByteArray) : Option (Bool × Int) := (feature_parseAll.f k (([a0, a1] : List ByteArray))).bind fun bt416 => (if bt416.2 = 0 then (if 0 < (bt416.1.length : Int) then (feature_Subset.l0 k bt416.1 (rd_L1 bt416.1 0) ((rd_L1 bt416.1 0).length : Int) 0) else (none)) else (some (false, bt416.2)))
theorem feature_Subset.mono_l : ∀ k, (∀ y0 y1 y2 y3, LeO (feature_Subset.l0 k y0 y1 y2 y3) (feature_Subset.l0 (k + 1) y0 y1 y2 y3))
  | 0 => fun _ _ _ _ r h => by simp [feature_Subset.l0] at h
  | k + 1 => by
    have ih0 := feature_Subset.mono_l k
    · intro y0 y1 y2 y3
      unfold feature_Subset.l0
      repeat' first
      | (with_reducible exact ih0 _ _ _ _)
      | (with_reducible exact feature_contains.mono _ _ _)
      | (with_reducible exact feature_parseAll.mono _ _)
      | (with_reducible exact LeO.refl _)
      | (with_reducible exact LeO.none _)
      | (with_reducible refine LeO.ite ?_ ?_)
      | (with_reducible refine LeO.bind ?_ (fun _ => ?_))
      | exact ih0 _ _ _ _
      | exact feature_contains.mono _ _ _
      | exact feature_parseAll.mono _ _
      | exact LeO.none _
      | refine LeO.ite ?_ ?_
      | refine LeO.bind ?_ (fun _ => ?_)
theorem feature_Subset.mono : ∀ a0 a1 k, LeO (feature_Subset.f k a0 a1) (feature_Subset.f (k + 1) a0 a1) := by
  intro a0 a1 k
  have ih0 := feature_Subset.mono_l k
  unfold feature_Subset.f
  repeat' first
      | (with_reducible exact ih0 _ _ _ _)
      | (with_reducible exact feature_contains.mono _ _ _)
      | (with_reducible exact feature_parseAll.mono _ _)
      | (with_reducible exact LeO.refl _)
      | (with_reducible exact LeO.none _)
      | (with_reducible refine LeO.ite ?_ ?_)
      | (with_reducible refine LeO.bind ?_ (fun _ => ?_))
      | exact ih0 _ _ _ _
      | exact feature_contains.mono _ _ _
      | exact feature_parseAll.mono _ _
      | exact LeO.none _
      | refine LeO.ite ?_ ?_
      | refine LeO.bind ?_ (fun _ => ?_)
set_option maxHeartbeats 8000000 in
set_option maxRecDepth 100000 in
theorem feature_Subset.calls (k : Nat) (a0 : ByteArray) (a1 : ByteArray) (r1 : Bool) (r2 : Int) (w : World) (h : feature_Subset.f k a0 a1 = some (r1, r2)) :
    Calls Try.prog 24 #[.string a0, .string a1] w fun e w' => e = .returned (.tuple #[.bool r1, .int .i64 r2]) ∧ Below w.heap.size w w' := by
  have HB := Aside0.mk (Below.refl w.heap.size w)
  have H : ((feature_parseAll.f k (([a0, a1] : List ByteArray))).bind fun bt416 => (if bt416.2 = 0 then (if 0 < (bt416.1.length : Int) then (feature_Subset.l0 k bt416.1 (rd_L1 bt416.1 0) ((rd_L1 bt416.1 0).length : Int) 0) else (none)) else (some (false, bt416.2)))) = some (r1, r2) := h
  clear h
  obtain ⟨y413, hy413⟩ : ∃ y_ : List ByteArray, y_ = (([a0, a1] : List ByteArray)) := ⟨_, rfl⟩
  replace H : ((feature_parseAll.f k y413).bind fun bt416 => (if bt416.2 = 0 then (if 0 < (bt416.1.length : Int) then (feature_Subset.l0 k bt416.1 (rd_L1 bt416.1 0) ((rd_L1 bt416.1 0).length : Int) 0) else (none)) else (some (false, bt416.2)))) = some (r1, r2) := by first | (rw [hy413]; with_reducible exact H) | (have H2_ := (Option.bind_some _ _).symm.trans H; rw [hy413]; with_reducible exact H2_) | (have H2_ := (Option.bind_some _ _).symm.trans H; with_reducible exact H2_) | with_reducible exact H | (rw [hy413]; exact H) | exact H
  have Ny413 := Aside0.mk hy413
  clear hy413
  replace H := Option.bind_eq_some_iff.mp H
  obtain ⟨⟨t416, t417⟩, A30, H⟩ := H
  replace H : (if t417 = 0 then (if 0 < (t416.length : Int) then (feature_Subset.l0 k t416 (rd_L1 t416 0) ((rd_L1 t416 0).length : Int) 0) else (none)) else (some (false, t417))) = some (r1, r2) := H
  have A3 := Aside0.mk A30
  clear A30
  by_cases c4 : t417 = 0
  · rw [if_pos c4] at H
    have c4b0 : (t417 == 0) = true := beq_iff_eq.mpr c4
    have c4b1 : (t417 != 0) = false := bne_eq_false_iff_eq.mpr c4
    clear c4
    by_cases c5 : 0 < (t416.length : Int)
    · rw [if_pos c5] at H
      have c5b0 : decide (0 < (t416.length : Int)) = true := decide_eq_true c5
      have c5b1 : decide (0 < t416.length) = true := decide_eq_true (by omega)
      clear c5
      have H' := Aside0.mk H
      clear H
      go_enter Try.func24, Try.ntmps24
      go_wp2_with (first | ((with_reducible refine gate_dst (N := 13) rfl ?_); refine Kd.R_lit Kd.string _ 9 ?hg (N := 13) ?hd (xs := ([a0, a1] : List ByteArray)) (inner := [.string a0, .string a1]) (ok := fun _ => True) (okp := fun _ => True) ?hr ?hp (fun _ hk => hk) trivial (Below.refl _ _) (Nat.le_refl _) (by simp) ?_; (case hd => rfl); (case hg => rfl); (case hr => first | (go_simp; done) | (go_simp; rfl)); (case hp => exact (Reps.one (show Kd.M Kd.string _ _ _ a0 [.string a0] from rfl) (Reps.one (show Kd.M Kd.string _ _ _ a1 [.string a1] from rfl) (Reps.none _ _)))); intro v414 w6 ho7 hb hg_ hnew_; clear hg_ hnew_; (first | rw [← Ny413.out] at ho7 | (simp only [Int.reduceToNat] at ho7; rw [← Ny413.out] at ho7)); have n0_ := Aside0.mk (Kd.R_lower ho7 (below_size (by repeat (first | (with_reducible first | exact HB.out | apply below_alloc | apply pw_below_drewN | apply below_drew1) | exact HB.out)))); have n1_ := Aside0.mk (below_step (by repeat (first | (with_reducible first | exact HB.out | apply below_alloc | apply pw_below_drewN | apply below_drew1) | exact HB.out)) hb); clear HB; have HO415 := n0_; have HB := n1_; clear n0_ n1_; clear hb ho7; obtain ⟨Ao8, co8, eo8⟩ := Kd.R_slice HO415.out; subst eo8) | ((with_reducible refine gate_callee (f := 35) rfl ?_); refine goesL_ (some 14) rfl rfl Try.func35 (by kernel_rfl) rfl #[.slice Ao8 y413.length co8] rfl (by (try simp only [List.map_toArray, List.map_cons, List.map_nil]); first | done | rfl | (simp only [List.length_drop, List.length_take]; rfl)) ?_; (with_reducible refine (feature_parseAll.calls k _ _ y413 t416 t417 _ ?side1 ?side2 A3.out).mono ?_); (case side1 => repeat (first | exact (Kd.R_reads' HO415.out).2.2 | (with_reducible refine Kd.C_alloc ?_ _) | (with_reducible refine Kd.C_drewN ?_ _) | (with_reducible refine Kd.C_drew ?_))); (case side2 => exact (Kd.R_reads' HO415.out).2.1); rintro e w9 ⟨v418, rfl, ho0, hb⟩; refine ⟨_, rfl, ?_⟩; have n0_ := Aside0.mk (Kd.R_below (by (with_reducible repeat (first | apply Kd.R_alloc | apply Kd.R_drewN | apply Kd.R_drew)); exact HO415.out) hb); have n1_ := Aside0.mk (Kd.S_lower (Kd.S_new' ho0 (Kd.R_lt (by (with_reducible repeat (first | apply Kd.R_alloc | apply Kd.R_drewN | apply Kd.R_drew)); exact HO415.out))) (below_size (by repeat (first | (with_reducible first | exact HB.out | apply below_alloc | apply pw_below_drewN | apply below_drew1) | exact HB.out)))); have n2_ := Aside0.mk (below_step (by repeat (first | (with_reducible first | exact HB.out | apply below_alloc | apply pw_below_drewN | apply below_drew1) | exact HB.out)) hb); clear HO415; clear HB; have HO415 := n0_; have HO419 := n1_; have HB := n2_; clear n0_ n1_ n2_; (try clear hb); (try clear hb2); (try clear hk); (try clear hi); (try clear ho0); obtain ⟨Ao10, co10, eo10⟩ := Kd.S_slice HO419.out; subst eo10; have p420 : 0 ≤ (0 : Int) := (by omega); have q420 : 0 < (t416.length : Int) := of_decide_eq_true (by first | (with_reducible assumption) | assumption); obtain ⟨ad420, A420_0, c420_0, e420, hx420_0, hl420_0, hi420_0⟩ := at_L1 (Kd.S_reads' HO419.out).2.2 0 p420 q420; cases e420; obtain ⟨ce420, hce420, hMe420, hcc420⟩ := Kd.S_get HO419.out [] 0 p420 (by first | exact q420 | exact of_decide_eq_true (by first | (with_reducible assumption) | assumption) | (have e_ := (Kd.S_reads' HO419.out).1; omega)); obtain ⟨ve420_0, rfl, ge420_0⟩ := hMe420; have hv420_0 := hcc420 0 _ rfl; rw [Nat.add_zero, show ((Kd.slice 9 Kd.string)).sz = 1 from rfl, Nat.mul_one] at hv420_0; replace hv420_0 := Option.some.inj (hv420_0.symm.trans hx420_0); rw [hv420_0] at ge420_0; have HL420_0 := Aside0.mk (show Kd.R Kd.string 9 _ _ _ _ (rd_L1 t416 0) from ge420_0); clear hv420_0 ge420_0; clear hcc420 hce420; have qi420 : (0 < t416.length) = True := eq_true (by omega); (try rw [show ((0 : Int)).toNat = 0 from rfl] at hx420_0); (try rw [Addr.add_zero'] at hx420_0); have HR420_0 := Aside0.mk hi420_0; have HC420_0 := Aside0.mk hl420_0; clear hi420_0 hl420_0; replace p420 := eq_true p420; replace q420 := eq_true q420))
      go_loopg [24] k (fun kq v24 w' => ∃ (x24_1 : Int), v24 = .int .i64 x24_1 ∧ Aside0 (feature_Subset.l0 kq t416 (rd_L1 t416 0) ((rd_L1 t416 0).length : Int) x24_1 = some (r1, r2)) ∧ Aside0 (kq ≤ k) ∧ Aside0 (Kd.S (Kd.slice 9 Kd.string) 23 w' w.heap.size (fun _ => True) (.slice (some ad420) t416.length co10) t416) ∧ Aside0 (Kd.C Kd.string w' A420_0 (rd_L1 t416 0).length (rd_L1 t416 0)) ∧ Aside0 (Below w.heap.size w w'))
      case atStart => exact ⟨(0), (by first | rfl | (simp; done) | (simp [*]; done)), H', ⟨Nat.le_refl _⟩, ⟨by (with_reducible repeat (first | apply Kd.S_alloc | apply Kd.S_drewN | apply Kd.S_drew)); exact Kd.S_mono HO419.out (fun _ hk => trivial)⟩, ⟨by repeat (first | (with_reducible exact HR420_0.out) | (with_reducible refine Kd.C_alloc ?_ _) | (with_reducible refine Kd.C_drewN ?_ _) | (with_reducible refine Kd.C_drew ?_) | exact HR420_0.out)⟩, ⟨by repeat (first | (with_reducible first | exact HB.out | apply below_alloc | apply pw_below_drewN | apply below_drew1) | exact HB.out)⟩⟩
      case round =>
        clear H'
        try clear c2
        try clear p2
        try clear c3
        try clear c4
        try clear c4b0
        try clear c4b1
        try clear p4
        try clear q4
        try clear hx4
        try clear qi4
        try clear c5
        try clear c5b0
        try clear c5b1
        try clear hx420_0
        try clear p420
        try clear q420
        obtain ⟨x24_1, rfl, HA, HK1, HO_6, HR420_0, HB⟩ := hrel
        cases gk with
        | zero => exact absurd HA.out (by simp [feature_Subset.l0])
        | succ k1 =>
          have H := HA.out
          clear HA
          simp only [feature_Subset.l0] at H
          by_cases c11 : x24_1 < ((rd_L1 t416 0).length : Int)
          · rw [if_pos c11] at H
            have c11b0 : decide (x24_1 < ((rd_L1 t416 0).length : Int)) = true := decide_eq_true c11
            clear c11
            by_cases c12 : 0 ≤ x24_1
            · rw [if_pos c12] at H
              have c12b0 : decide (0 ≤ x24_1) = true := decide_eq_true c12
              clear c12
              by_cases c13 : x24_1 < ((rd_L1 t416 0).length : Int)
              · rw [if_pos c13] at H
                have c13b0 : decide (x24_1 < ((rd_L1 t416 0).length : Int)) = true := decide_eq_true c13
                clear c13
                by_cases c14 : 1 < (t416.length : Int)
                · rw [if_pos c14] at H
                  have c14b0 : decide (1 < (t416.length : Int)) = true := decide_eq_true c14
                  have c14b1 : decide (1 < t416.length) = true := decide_eq_true (by omega)
                  clear c14
                  replace H := Option.bind_eq_some_iff.mp H
                  obtain ⟨t423, A150, H⟩ := H
                  replace H : (if t423 = true then (feature_Subset.l0 k1 t416 (rd_L1 t416 0) ((rd_L1 t416 0).length : Int) (wrap64 (x24_1 + 1))) else (some (false, 0))) = some (r1, r2) := H
                  have A15 := Aside0.mk A150
                  clear A150
                  by_cases c16 : t423 = true
                  · subst c16
                    have H1 : (feature_Subset.l0 k1 t416 (rd_L1 t416 0) ((rd_L1 t416 0).length : Int) (wrap64 (x24_1 + 1))) = some (r1, r2) := by rw [if_pos rfl] at H; exact H
                    clear H
                    have H := H1
                    clear H1
                    have H' := Aside0.mk H
                    clear H
                    have p421 : 0 ≤ (x24_1 : Int) := of_decide_eq_true (by first | (with_reducible assumption) | assumption)
                    have q421 : x24_1 < ((rd_L1 t416 0).length : Int) := of_decide_eq_true (by first | (with_reducible assumption) | assumption)
                    obtain ⟨ad421, e421, hx421_0⟩ := Kd.at_string HR420_0.out x24_1 p421 q421
                    cases e421
                    replace p421 := eq_true p421
                    replace q421 := eq_true q421
                    have p422 : 0 ≤ (1 : Int) := (by omega)
                    have q422 : 1 < (t416.length : Int) := of_decide_eq_true (by first | (with_reducible assumption) | assumption)
                    obtain ⟨ad422, A422_0, c422_0, e422, hx422_0, hl422_0, hi422_0⟩ := at_L1 (Kd.S_reads' HO_6.out).2.2 1 p422 q422
                    obtain rfl : ad420 = ad422 := (by injection e422)
                    obtain ⟨ce422, hce422, hMe422, hcc422⟩ := Kd.S_get HO_6.out [] 1 p422 (by first | exact q422 | exact of_decide_eq_true (by first | (with_reducible assumption) | assumption) | (have e_ := (Kd.S_reads' HO_6.out).1; omega))
                    obtain ⟨ve422_0, rfl, ge422_0⟩ := hMe422
                    have hv422_0 := hcc422 0 _ rfl
                    rw [Nat.add_zero, show ((Kd.slice 9 Kd.string)).sz = 1 from rfl, Nat.mul_one] at hv422_0
                    replace hv422_0 := Option.some.inj (hv422_0.symm.trans hx422_0)
                    rw [hv422_0] at ge422_0
                    have HL422_0 := Aside0.mk (show Kd.R Kd.string 9 _ _ _ _ (rd_L1 t416 1) from ge422_0)
                    clear hv422_0 ge422_0
                    clear hcc422 hce422
                    (try simp only [show (1 : Int).toNat = 1 from rfl, Nat.reduceMul, Nat.reduceEqDiff, Go.Addr.add, ↓reduceIte] at hx422_0)
                    have qi422 : (1 < t416.length) = True := eq_true (by omega)
                    (try rw [show ((1 : Int)).toNat = 1 from rfl] at hx422_0)
                    have HR422_0 := Aside0.mk hi422_0
                    have HC422_0 := Aside0.mk hl422_0
                    clear hi422_0 hl422_0
                    replace p422 := eq_true p422
                    replace q422 := eq_true q422
                    go_wp2_with (first | ((with_reducible refine gate_callee (f := 33) rfl ?_); refine goesL_ (some 32) rfl rfl Try.func33 (by kernel_rfl) rfl #[.slice A422_0 (rd_L1 t416 1).length c422_0, .string (rdOf ByteArray.empty (rd_L1 t416 0) x24_1)] rfl (by (try simp only [List.map_toArray, List.map_cons, List.map_nil]); first | done | rfl | (simp only [List.length_drop, List.length_take]; rfl)) ?_; (with_reducible refine (feature_contains.calls k1 _ _ (rd_L1 t416 1) (rdOf ByteArray.empty (rd_L1 t416 0) x24_1) true _ ?side1 ?side2 A15.out).mono ?_); (case side1 => repeat (first | exact (by repeat (first | (with_reducible exact HR422_0.out) | (with_reducible refine Kd.C_alloc ?_ _) | (with_reducible refine Kd.C_drewN ?_ _) | (with_reducible refine Kd.C_drew ?_) | exact HR422_0.out)) | (with_reducible refine Kd.C_alloc ?_ _) | (with_reducible refine Kd.C_drewN ?_ _) | (with_reducible refine Kd.C_drew ?_))); (case side2 => exact HC422_0.out); rintro e w' ⟨rfl, ⟨nd, rfl⟩⟩; refine ⟨_, rfl, ?_⟩))
                    go_roundg k1
                    case measure => have := HK1.out; omega
                    case rel => exact ⟨(wrap64 (x24_1 + 1)), (by first | rfl | (simp; done) | (simp [*]; done)), H', ⟨by have := HK1.out; omega⟩, ⟨by (with_reducible repeat (first | apply Kd.S_alloc | apply Kd.S_drewN | apply Kd.S_drew)); exact HO_6.out⟩, ⟨by repeat (first | (with_reducible exact HR420_0.out) | (with_reducible refine Kd.C_alloc ?_ _) | (with_reducible refine Kd.C_drewN ?_ _) | (with_reducible refine Kd.C_drew ?_) | exact HR420_0.out)⟩, ⟨by repeat (first | (with_reducible first | exact HB.out | apply below_alloc | apply pw_below_drewN | apply below_drew1) | exact HB.out)⟩⟩
                  · replace c16 := Bool.eq_false_iff.mpr c16
                    subst c16
                    have H1 : (some (false, 0)) = some (r1, r2) := by rw [if_neg (show ¬ (false = true) by decide)] at H; exact H
                    clear H
                    have H := H1
                    clear H1
                    simp only [Option.some.injEq, Prod.mk.injEq] at H
                    obtain ⟨rfl, rfl⟩ := H
                    have p421 : 0 ≤ (x24_1 : Int) := of_decide_eq_true (by first | (with_reducible assumption) | assumption)
                    have q421 : x24_1 < ((rd_L1 t416 0).length : Int) := of_decide_eq_true (by first | (with_reducible assumption) | assumption)
                    obtain ⟨ad421, e421, hx421_0⟩ := Kd.at_string HR420_0.out x24_1 p421 q421
                    cases e421
                    replace p421 := eq_true p421
                    replace q421 := eq_true q421
                    have p422 : 0 ≤ (1 : Int) := (by omega)
                    have q422 : 1 < (t416.length : Int) := of_decide_eq_true (by first | (with_reducible assumption) | assumption)
                    obtain ⟨ad422, A422_0, c422_0, e422, hx422_0, hl422_0, hi422_0⟩ := at_L1 (Kd.S_reads' HO_6.out).2.2 1 p422 q422
                    obtain rfl : ad420 = ad422 := (by injection e422)
                    obtain ⟨ce422, hce422, hMe422, hcc422⟩ := Kd.S_get HO_6.out [] 1 p422 (by first | exact q422 | exact of_decide_eq_true (by first | (with_reducible assumption) | assumption) | (have e_ := (Kd.S_reads' HO_6.out).1; omega))
                    obtain ⟨ve422_0, rfl, ge422_0⟩ := hMe422
                    have hv422_0 := hcc422 0 _ rfl
                    rw [Nat.add_zero, show ((Kd.slice 9 Kd.string)).sz = 1 from rfl, Nat.mul_one] at hv422_0
                    replace hv422_0 := Option.some.inj (hv422_0.symm.trans hx422_0)
                    rw [hv422_0] at ge422_0
                    have HL422_0 := Aside0.mk (show Kd.R Kd.string 9 _ _ _ _ (rd_L1 t416 1) from ge422_0)
                    clear hv422_0 ge422_0
                    clear hcc422 hce422
                    (try simp only [show (1 : Int).toNat = 1 from rfl, Nat.reduceMul, Nat.reduceEqDiff, Go.Addr.add, ↓reduceIte] at hx422_0)
                    have qi422 : (1 < t416.length) = True := eq_true (by omega)
                    (try rw [show ((1 : Int)).toNat = 1 from rfl] at hx422_0)
                    have HR422_0 := Aside0.mk hi422_0
                    have HC422_0 := Aside0.mk hl422_0
                    clear hi422_0 hl422_0
                    replace p422 := eq_true p422
                    replace q422 := eq_true q422
                    go_wp2_with (first | ((with_reducible refine gate_callee (f := 33) rfl ?_); refine goesL_ (some 32) rfl rfl Try.func33 (by kernel_rfl) rfl #[.slice A422_0 (rd_L1 t416 1).length c422_0, .string (rdOf ByteArray.empty (rd_L1 t416 0) x24_1)] rfl (by (try simp only [List.map_toArray, List.map_cons, List.map_nil]); first | done | rfl | (simp only [List.length_drop, List.length_take]; rfl)) ?_; (with_reducible refine (feature_contains.calls k1 _ _ (rd_L1 t416 1) (rdOf ByteArray.empty (rd_L1 t416 0) x24_1) false _ ?side1 ?side2 A15.out).mono ?_); (case side1 => repeat (first | exact (by repeat (first | (with_reducible exact HR422_0.out) | (with_reducible refine Kd.C_alloc ?_ _) | (with_reducible refine Kd.C_drewN ?_ _) | (with_reducible refine Kd.C_drew ?_) | exact HR422_0.out)) | (with_reducible refine Kd.C_alloc ?_ _) | (with_reducible refine Kd.C_drewN ?_ _) | (with_reducible refine Kd.C_drew ?_))); (case side2 => exact HC422_0.out); rintro e w' ⟨rfl, ⟨nd, rfl⟩⟩; refine ⟨_, rfl, ?_⟩))
                    go_ret2
                    exact ⟨by first | rfl | (simp [errW_none, errW_some] <;> rfl) | (simp [*, errW_none, errW_some] <;> rfl), by repeat (first | (with_reducible first | exact HB.out | apply below_alloc | apply pw_below_drewN | apply below_drew1) | exact HB.out)⟩
                · rw [if_neg c14] at H
                  exact absurd H (by simp)
              · rw [if_neg c13] at H
                exact absurd H (by simp)
            · rw [if_neg c12] at H
              exact absurd H (by simp)
          · rw [if_neg c11] at H
            have c11b0 : decide (x24_1 < ((rd_L1 t416 0).length : Int)) = false := decide_eq_false c11
            clear c11
            simp only [Option.some.injEq, Prod.mk.injEq] at H
            obtain ⟨rfl, rfl⟩ := H
            go_wp2
            go_ret2
            exact ⟨by first | rfl | (simp [errW_none, errW_some] <;> rfl) | (simp [*, errW_none, errW_some] <;> rfl), by repeat (first | (with_reducible first | exact HB.out | apply below_alloc | apply pw_below_drewN | apply below_drew1) | exact HB.out)⟩
    · rw [if_neg c5] at H
      exact absurd H (by simp)
  · rw [if_neg c4] at H
    have c4b0 : (t417 == 0) = false := beq_eq_false_iff_ne.mpr c4
    have c4b1 : (t417 != 0) = true := bne_iff_ne.mpr c4
    simp only [Option.some.injEq, Prod.mk.injEq] at H
    obtain ⟨rfl, rfl⟩ := H
    go_enter Try.func24, Try.ntmps24
    go_wp2_with (first | ((with_reducible refine gate_dst (N := 13) rfl ?_); refine Kd.R_lit Kd.string _ 9 ?hg (N := 13) ?hd (xs := ([a0, a1] : List ByteArray)) (inner := [.string a0, .string a1]) (ok := fun _ => True) (okp := fun _ => True) ?hr ?hp (fun _ hk => hk) trivial (Below.refl _ _) (Nat.le_refl _) (by simp) ?_; (case hd => rfl); (case hg => rfl); (case hr => first | (go_simp; done) | (go_simp; rfl)); (case hp => exact (Reps.one (show Kd.M Kd.string _ _ _ a0 [.string a0] from rfl) (Reps.one (show Kd.M Kd.string _ _ _ a1 [.string a1] from rfl) (Reps.none _ _)))); intro v414 w17 ho18 hb hg_ hnew_; clear hg_ hnew_; (first | rw [← Ny413.out] at ho18 | (simp only [Int.reduceToNat] at ho18; rw [← Ny413.out] at ho18)); have n0_ := Aside0.mk (Kd.R_lower ho18 (below_size (by repeat (first | (with_reducible first | exact HB.out | apply below_alloc | apply pw_below_drewN | apply below_drew1) | exact HB.out)))); have n1_ := Aside0.mk (below_step (by repeat (first | (with_reducible first | exact HB.out | apply below_alloc | apply pw_below_drewN | apply below_drew1) | exact HB.out)) hb); clear HB; have HO415 := n0_; have HB := n1_; clear n0_ n1_; clear hb ho18; obtain ⟨Ao19, co19, eo19⟩ := Kd.R_slice HO415.out; subst eo19) | ((with_reducible refine gate_callee (f := 35) rfl ?_); refine goesL_ (some 14) rfl rfl Try.func35 (by kernel_rfl) rfl #[.slice Ao19 y413.length co19] rfl (by (try simp only [List.map_toArray, List.map_cons, List.map_nil]); first | done | rfl | (simp only [List.length_drop, List.length_take]; rfl)) ?_; (with_reducible refine (feature_parseAll.calls k _ _ y413 t416 t417 _ ?side1 ?side2 A3.out).mono ?_); (case side1 => repeat (first | exact (Kd.R_reads' HO415.out).2.2 | (with_reducible refine Kd.C_alloc ?_ _) | (with_reducible refine Kd.C_drewN ?_ _) | (with_reducible refine Kd.C_drew ?_))); (case side2 => exact (Kd.R_reads' HO415.out).2.1); rintro e w20 ⟨v418, rfl, ho0, hb⟩; refine ⟨_, rfl, ?_⟩; have n0_ := Aside0.mk (Kd.R_below (by (with_reducible repeat (first | apply Kd.R_alloc | apply Kd.R_drewN | apply Kd.R_drew)); exact HO415.out) hb); have n1_ := Aside0.mk (Kd.S_lower (Kd.S_new' ho0 (Kd.R_lt (by (with_reducible repeat (first | apply Kd.R_alloc | apply Kd.R_drewN | apply Kd.R_drew)); exact HO415.out))) (below_size (by repeat (first | (with_reducible first | exact HB.out | apply below_alloc | apply pw_below_drewN | apply below_drew1) | exact HB.out)))); have n2_ := Aside0.mk (below_step (by repeat (first | (with_reducible first | exact HB.out | apply below_alloc | apply pw_below_drewN | apply below_drew1) | exact HB.out)) hb); clear HO415; clear HB; have HO415 := n0_; have HO419 := n1_; have HB := n2_; clear n0_ n1_ n2_; (try clear hb); (try clear hb2); (try clear hk); (try clear hi); (try clear ho0)))
    go_ret2
    exact ⟨by first | rfl | (simp [errW_none, errW_some] <;> rfl) | (simp [*, errW_none, errW_some] <;> rfl), by repeat (first | (with_reducible first | exact HB.out | apply below_alloc | apply pw_below_drewN | apply below_drew1) | exact HB.out)⟩

end Go.Proofs.Ytcgglamgemgeiaa.Q
/- FFeatureHas -/
namespace Go.Proofs.Ytcgglamgemgeiaa.Q
open Go.RowKit Go.Proofs.YtcgglamgemgeiaaW.PrintWords Go.Proofs.YtcgglamgemgeiaaW.PrintLast Go.Proofs.YtcgglamgemgeiaaW.PrintMore
attribute [local go_sem] max2_int min2_int max_two min_two max_three min_three max_four min_four   -- for this text's walks alone
set_option linter.unusedVariables false
set_option linter.unusedSimpArgs false

/-! ### feature_Has: function 18 -/
def feature_Has.f (k : Nat) (a0 : ByteArray) (a1 : ByteArray) : Option (Bool) := (feature_Parse.f k a0).bind fun bt321 => (if bt321.2 = 0 then ((feature_contains.f k bt321.1 a1).bind fun t325 => (some t325)) else (some false))
theorem feature_Has.mono : ∀ a0 a1 k, LeO (feature_Has.f k a0 a1) (feature_Has.f (k + 1) a0 a1) := by
  intro a0 a1 k
  unfold feature_Has.f
  repeat' first
      | (with_reducible exact feature_Parse.mono _ _)
      | (with_reducible exact feature_contains.mono _ _ _)
      | (with_reducible exact LeO.refl _)
      | (with_reducible exact LeO.none _)
      | (with_reducible refine LeO.ite ?_ ?_)
      | (with_reducible refine LeO.bind ?_ (fun _ => ?_))
      | exact feature_Parse.mono _ _
      | exact feature_contains.mono _ _ _
      | exact LeO.none _
      | refine LeO.ite ?_ ?_
      | refine LeO.bind ?_ (fun _ => ?_)
set_option maxHeartbeats 8000000 in
set_option maxRecDepth 100000 in
theorem feature_Has.calls (k : Nat) (a0 : ByteArray) (a1 : ByteArray) (r : Bool) (w : World) (h : feature_Has.f k a0 a1 = some r) :
    Calls Try.prog 18 #[.string a0, .string a1] w fun e w' => e = .returned (.bool r) ∧ Below w.heap.size w w' := by
  have HB := Aside0.mk (Below.refl w.heap.size w)
  have H : ((feature_Parse.f k a0).bind fun bt321 => (if bt321.2 = 0 then ((feature_contains.f k bt321.1 a1).bind fun t325 => (some t325)) else (some false))) = some r := h
  clear h
  replace H := Option.bind_eq_some_iff.mp H
  obtain ⟨⟨t321, t322⟩, A30, H⟩ := H
  replace H : (if t322 = 0 then ((feature_contains.f k t321 a1).bind fun t325 => (some t325)) else (some false)) = some r := H
  have A3 := Aside0.mk A30
  clear A30
  by_cases c4 : t322 = 0
  · rw [if_pos c4] at H
    have c4b0 : (t322 == 0) = true := beq_iff_eq.mpr c4
    have c4b1 : (t322 != 0) = false := bne_eq_false_iff_eq.mpr c4
    clear c4
    replace H := Option.bind_eq_some_iff.mp H
    obtain ⟨t325, A50, H⟩ := H
    replace H : (some t325) = some r := H
    have A5 := Aside0.mk A50
    clear A50
    obtain rfl := Option.some.inj H
    go_enter Try.func18, Try.ntmps18
    go_wp2_with (first | ((with_reducible refine gate_callee (f := 12) rfl ?_); refine goesL_ (some 9) rfl rfl Try.func12 (by kernel_rfl) rfl #[.string a0] rfl (by (try simp only [List.map_toArray, List.map_cons, List.map_nil]); first | done | rfl | (simp only [List.length_drop, List.length_take]; rfl)) ?_; (with_reducible refine (feature_Parse.calls k a0 t321 t322 _ A3.out).mono ?_); rintro e w6 ⟨v323, rfl, ho0, hb⟩; refine ⟨_, rfl, ?_⟩; have n0_ := Aside0.mk (Kd.R_lower ho0 (below_size (by repeat (first | (with_reducible first | exact HB.out | apply below_alloc | apply pw_below_drewN | apply below_drew1) | exact HB.out)))); have n1_ := Aside0.mk (below_step (by repeat (first | (with_reducible first | exact HB.out | apply below_alloc | apply pw_below_drewN | apply below_drew1) | exact HB.out)) hb); clear HB; have HO324 := n0_; have HB := n1_; clear n0_ n1_; (try clear hb); (try clear hb2); (try clear hk); (try clear hi); (try clear ho0); obtain ⟨Ao7, co7, eo7⟩ := Kd.R_slice HO324.out; subst eo7) | (go_at_call 33; (with_reducible refine (feature_contains.calls k _ _ t321 a1 t325 _ ?side1 ?side2 A5.out).mono ?_); (case side1 => repeat (first | exact (Kd.R_reads' HO324.out).2.2 | (with_reducible refine Kd.C_alloc ?_ _) | (with_reducible refine Kd.C_drewN ?_ _) | (with_reducible refine Kd.C_drew ?_))); (case side2 => exact (Kd.R_reads' HO324.out).2.1); rintro e w' ⟨rfl, ⟨nd, rfl⟩⟩))
    go_ret
    exact ⟨by first | rfl | (simp [errW_none, errW_some] <;> rfl) | (simp [*, errW_none, errW_some] <;> rfl), by repeat (first | (with_reducible first | exact HB.out | apply below_alloc | apply pw_below_drewN | apply below_drew1) | exact HB.out)⟩
  · rw [if_neg c4] at H
    have c4b0 : (t322 == 0) = false := beq_eq_false_iff_ne.mpr c4
    have c4b1 : (t322 != 0) = true := bne_iff_ne.mpr c4
    obtain rfl := Option.some.inj H
    go_enter Try.func18, Try.ntmps18
    go_wp2_with (first | ((with_reducible refine gate_callee (f := 12) rfl ?_); refine goesL_ (some 9) rfl rfl Try.func12 (by kernel_rfl) rfl #[.string a0] rfl (by (try simp only [List.map_toArray, List.map_cons, List.map_nil]); first | done | rfl | (simp only [List.length_drop, List.length_take]; rfl)) ?_; (with_reducible refine (feature_Parse.calls k a0 t321 t322 _ A3.out).mono ?_); rintro e w8 ⟨v323, rfl, ho0, hb⟩; refine ⟨_, rfl, ?_⟩; have n0_ := Aside0.mk (Kd.R_lower ho0 (below_size (by repeat (first | (with_reducible first | exact HB.out | apply below_alloc | apply pw_below_drewN | apply below_drew1) | exact HB.out)))); have n1_ := Aside0.mk (below_step (by repeat (first | (with_reducible first | exact HB.out | apply below_alloc | apply pw_below_drewN | apply below_drew1) | exact HB.out)) hb); clear HB; have HO324 := n0_; have HB := n1_; clear n0_ n1_; (try clear hb); (try clear hb2); (try clear hk); (try clear hi); (try clear ho0)))
    go_ret
    exact ⟨by first | rfl | (simp [errW_none, errW_some] <;> rfl) | (simp [*, errW_none, errW_some] <;> rfl), by repeat (first | (with_reducible first | exact HB.out | apply below_alloc | apply pw_below_drewN | apply below_drew1) | exact HB.out)⟩

end Go.Proofs.Ytcgglamgemgeiaa.Q
/- FEv3 -/
namespace Go.Proofs.Ytcgglamgemgeiaa.Q
open Go.RowKit Go.Lib Go.Proofs.YtcgglamgemgeiaaW.PrintWords Go.Proofs.YtcgglamgemgeiaaW.PrintLast
theorem PR_len (s : ByteArray) : (PR s).1.length ≤ 120 := by
  by_cases h : (PR s).2 = 0
  · obtain ⟨h1, _, _, h4⟩ := PR_ok (PR_eta h)
    have h5 : s.size = 1 + (tailT (PR s).1).length := by rw [← size_text, ← h1]
    have := len_tail (PR s).1
    omega
  · rw [PR_err h]; simp
/-- The answer of parseAll at two sets. -/
def PA (a b : ByteArray) : List (List ByteArray) × Int := if (PR a).2 ≠ 0 then ([], (PR a).2) else if (PR b).2 ≠ 0 then ([], (PR b).2) else ([(PR a).1, (PR b).1], 0)
theorem parseAll_ev (a b : ByteArray) : Ev (fun k => feature_parseAll.f k [a, b]) (PA a b) := by
  unfold feature_parseAll.f PA
  have w1 : wrap64 ((0 : Int) + 1) = 1 := by unfold wrap64; omega
  have w2 : wrap64 ((1 : Int) + 1) = 2 := by unfold wrap64; omega
  have hl : (([a, b] : List ByteArray).length : Int) = 2 := rfl
  rw [hl]
  refine Ev.step (fun k => by rw [feature_parseAll.l0]) ?_
  refine ev_pos (by omega) (ev_pos (by omega) (ev_pos (by simp) ?_))
  rw [w1]
  refine Ev.bind (parse_ev a) ?_
  by_cases h1 : (PR a).2 = 0
  · refine ev_pos h1 (ev_pos (by simp) ?_)
    rw [if_neg (by simp [h1])]
    refine Ev.step (fun k => by rw [feature_parseAll.l0]) ?_
    refine ev_pos (by omega) (ev_pos (by omega) (ev_pos (by simp) ?_))
    rw [w2]
    refine Ev.bind (parse_ev b) ?_
    by_cases h2 : (PR b).2 = 0
    · refine ev_pos h2 (ev_pos (by simp) ?_)
      rw [if_neg (by simp [h2])]
      refine Ev.step (fun k => by rw [feature_parseAll.l0]) ?_
      exact ev_neg (by omega) (Ev.now _)
    · refine ev_neg h2 (ev_now ?_)
      rw [if_pos h2]
  · refine ev_neg h1 (ev_now ?_)
    rw [if_pos h1]
theorem union_ev (a b : ByteArray) : Ev (fun k => feature_Union.f k a b) (UN a b) := by
  unfold feature_Union.f
  refine Ev.bind (parseAll_ev a b) ?_
  unfold PA UN
  by_cases h1 : (PR a).2 = 0
  · by_cases h2 : (PR b).2 = 0
    · rw [if_neg (by simp [h1]), if_neg (by simp [h2]), if_neg (by simp [h1]), if_neg (by simp [h2])]
      have l1 := PR_len a
      have l2 := PR_len b
      refine ev_pos rfl (ev_pos (by simp) (ev_pos (by simp) (ev_pos (show (PR a).1.length + (PR b).1.length < 8796093022208 by omega) ?_)))
      refine Ev.bind (format_ev ((PR a).1 ++ (PR b).1) (by rw [List.length_append]; omega)) (ev_now rfl)
    · rw [if_neg (by simp [h1]), if_pos h2, if_neg (by simp [h1]), if_pos h2]
      exact ev_neg h2 (Ev.now _)
  · rw [if_pos h1, if_pos h1]
    exact ev_neg h1 (Ev.now _)
theorem intersect_loop (x y : List ByteArray) (hx : x.length ≤ 120) (hy : y.length ≤ 120) : ∀ (d i : Nat) (acc : List ByteArray), i + d = x.length → acc.length ≤ i →
    Ev (fun k => feature_Intersect.l0 k [x, y] acc x (x.length : Int) (i : Int)) (FM (acc ++ (x.drop i).filter (memb y))) := by
  intro d
  induction d with
  | zero =>
    intro i acc hd ha
    refine Ev.step (fun k => by rw [feature_Intersect.l0]) (ev_neg (by omega) ?_)
    rw [List.drop_eq_nil_of_le (by omega), List.filter_nil, List.append_nil]
    exact Ev.bind (format_ev acc (by omega)) (ev_now rfl)
  | succ d ih =>
    intro i acc hd ha
    have hi : i < x.length := by omega
    refine Ev.step (fun k => by rw [feature_Intersect.l0]) (ev_pos (by omega) (ev_pos (by omega) (ev_pos (by omega) (ev_pos (by simp) ?_))))
    rw [rd_nat hi]
    refine Ev.bind (contains_ev y x[i] (by omega)) ?_
    have hdr : x.drop i = x[i] :: x.drop (i + 1) := List.drop_eq_getElem_cons hi
    rw [wrap_up i (by omega)]
    cases hm : memb y x[i] with
    | true =>
      refine ev_pos rfl (ev_pos (by omega) ?_)
      refine ev_eq (ih (i + 1) _ (by omega) (by rw [List.length_append, List.length_singleton]; omega)) ?_
      rw [hdr, List.filter_cons, hm, if_pos rfl, List.append_assoc]; rfl
    | false =>
      refine ev_neg (by simp) ?_
      refine ev_eq (ih (i + 1) _ (by omega) (by omega)) ?_
      rw [hdr, List.filter_cons, hm, if_neg (by simp)]
theorem intersect_ev (a b : ByteArray) : Ev (fun k => feature_Intersect.f k a b) (IS a b) := by
  unfold feature_Intersect.f
  refine Ev.bind (parseAll_ev a b) ?_
  unfold PA IS
  by_cases h1 : (PR a).2 = 0
  · by_cases h2 : (PR b).2 = 0
    · rw [if_neg (by simp [h1]), if_neg (by simp [h2]), if_neg (by simp [h1]), if_neg (by simp [h2])]
      refine ev_pos rfl (ev_pos (by simp) ?_)
      refine ev_eq (intersect_loop (PR a).1 (PR b).1 (PR_len a) (PR_len b) (PR a).1.length 0 [] (by omega) (by simp)) ?_
      rw [List.drop_zero, List.nil_append]
      exact FM_same (filter_text (PR_eta h1) (memb (PR b).1)) (fun _ => Iff.rfl)
    · rw [if_neg (by simp [h1]), if_pos h2, if_neg (by simp [h1]), if_pos h2]
      exact ev_neg h2 (Ev.now _)
  · rw [if_pos h1, if_pos h1]
    exact ev_neg h1 (Ev.now _)
theorem subset_loop (x y : List ByteArray) (hx : x.length ≤ 120) (hy : y.length ≤ 120) : ∀ (d i : Nat), i + d = x.length →
    Ev (fun k => feature_Subset.l0 k [x, y] x (x.length : Int) (i : Int)) ((x.drop i).all (memb y), 0) := by
  intro d
  induction d with
  | zero =>
    intro i hd
    refine Ev.step (fun k => by rw [feature_Subset.l0]) (ev_neg (by omega) ?_)
    rw [List.drop_eq_nil_of_le (by omega)]
    exact Ev.now _
  | succ d ih =>
    intro i hd
    have hi : i < x.length := by omega
    refine Ev.step (fun k => by rw [feature_Subset.l0]) (ev_pos (by omega) (ev_pos (by omega) (ev_pos (by omega) (ev_pos (by simp) ?_))))
    rw [rd_nat hi]
    refine Ev.bind (contains_ev y x[i] (by omega)) ?_
    have hdr : x.drop i = x[i] :: x.drop (i + 1) := List.drop_eq_getElem_cons hi
    rw [wrap_up i (by omega)]
    cases hm : memb y x[i] with
    | true =>
      refine ev_pos rfl ?_
      refine ev_eq (ih (i + 1) (by omega)) ?_
      rw [hdr, List.all_cons, hm, Bool.true_and]
    | false =>
      refine ev_neg (by simp) (ev_now ?_)
      rw [hdr, List.all_cons, hm, Bool.false_and]
theorem subset_ev (a b : ByteArray) : Ev (fun k => feature_Subset.f k a b) (SB a b) := by
  unfold feature_Subset.f
  refine Ev.bind (parseAll_ev a b) ?_
  unfold PA SB
  by_cases h1 : (PR a).2 = 0
  · by_cases h2 : (PR b).2 = 0
    · rw [if_neg (by simp [h1]), if_neg (by simp [h2]), if_neg (by simp [h1]), if_neg (by simp [h2])]
      exact ev_pos rfl (ev_pos (by simp) (subset_loop (PR a).1 (PR b).1 (PR_len a) (PR_len b) (PR a).1.length 0 (by omega)))
    · rw [if_neg (by simp [h1]), if_pos h2, if_neg (by simp [h1]), if_pos h2]
      exact ev_neg h2 (Ev.now _)
  · rw [if_pos h1, if_pos h1]
    exact ev_neg h1 (Ev.now _)
theorem has_ev (s f : ByteArray) : Ev (fun k => feature_Has.f k s f) (HS s f) := by
  unfold feature_Has.f HS
  refine Ev.bind (parse_ev s) ?_
  by_cases h : (PR s).2 = 0
  · refine ev_pos h (Ev.bind (contains_ev _ f (by have := PR_len s; omega)) (ev_now ?_))
    simp [h]
  · refine ev_neg h (ev_now ?_)
    simp [h]
/-! ### the examples -/
theorem awake_fm : FM [(⟨#[98]⟩ : ByteArray), (⟨#[97]⟩ : ByteArray), (⟨#[98]⟩ : ByteArray)] = (⟨#[124, 97, 124, 98, 124]⟩, 0) := by decide +kernel
theorem awake_pr : PR (⟨#[124]⟩ : ByteArray) = ([], 0) := by decide +kernel
theorem awake_un : UN (⟨#[124, 97, 124]⟩ : ByteArray) (⟨#[124, 98, 124]⟩ : ByteArray) = (⟨#[124, 97, 124, 98, 124]⟩, 0) := by decide +kernel
theorem awake_ev : Ev (fun k => corporalaw05_awake.f k) true := by
  unfold corporalaw05_awake.f
  refine Ev.bind (format_ev _ (by simp)) (Ev.bind (parse_ev _) (Ev.bind (union_ev _ _) ?_))
  rw [awake_fm, awake_pr, awake_un]
  have e : (⟨#[124, 97, 124, 98, 124]⟩ : ByteArray).toList = ([124, 97, 124, 98, 124] : List UInt8) := by rw [toList_bl]; rfl
  exact ev_pos e (ev_pos rfl (ev_pos rfl (ev_pos rfl (ev_pos e (ev_now rfl)))))
end Go.Proofs.Ytcgglamgemgeiaa.Q
