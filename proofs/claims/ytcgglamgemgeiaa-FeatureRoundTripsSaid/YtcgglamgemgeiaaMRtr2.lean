/- The law FeatureRoundTrips holds of every string and number: a text is formatted again from its features, also from a turned and doubled list of them; no condition. -/
import Derived.Laws.Cover1
import Derived.Test.YtcgglamgemgeiaaMRtr1
import Derived.Lib.Bytealg
import Derived.Test.YtcgglamgemgeiaaRows
import Derived.WalkKit
import Derived.ProofKit
import Derived.OpenShut
import Derived.ShutString
import Derived.ChangeOld
import Derived.Below
import Derived.SizedLaws
set_option linter.unusedVariables false
set_option linter.unusedSimpArgs false
set_option linter.unusedSectionVars false
/- FCorporalaw05FeatureRoundTrips -/
namespace Go.Proofs.Ytcgglamgemgeiaa.Q
open Go.RowKit Go.Proofs.YtcgglamgemgeiaaW.PrintWords Go.Proofs.YtcgglamgemgeiaaW.PrintLast Go.Proofs.YtcgglamgemgeiaaW.PrintMore
attribute [local go_sem] max2_int min2_int max_two min_two max_three min_three max_four min_four   -- for this text's walks alone
set_option linter.unusedVariables false
set_option linter.unusedSimpArgs false

/-! ### corporalaw05_FeatureRoundTrips: function 5 -/
mutual
def corporalaw05_FeatureRoundTrips.j0 : Nat → ByteArray → Int → List ByteArray → Bool → List ByteArray → Option (Bool)
  | 0, _, _, _, _, _ => none
  | k + 1, x0, x1, x5, x26, x91 => if x26 = true then (some true) else (if x91.length + x5.length < 8796093022208 then (corporalaw05_FeatureRoundTrips.l0 k x0 x1 x5 (x91 ++ x5) (x5.length : Int) 0) else (none))
def corporalaw05_FeatureRoundTrips.l0 : Nat → ByteArray → Int → List ByteArray → List ByteArray → Int → Int → Option (Bool)
  | 0, _, _, _, _, _, _ => none
  | k + 1, x0, x1, x5, x7, x30, x31 => if x31 < x30 then (if (x5.length : Int) = 0 then (none) else (if 0 ≤ (Int.tmod (wrap64 (x31 + x1)) (x5.length : Int)) then (if (Int.tmod (wrap64 (x31 + x1)) (x5.length : Int)) < (x5.length : Int) then (if x7.length < 8796093022208 then (corporalaw05_FeatureRoundTrips.l0 k x0 x1 x5 (x7 ++ [rdOf ByteArray.empty x5 (Int.tmod (wrap64 (x31 + x1)) (x5.length : Int))]) x30 (wrap64 (x31 + 1))) else (none)) else (none)) else (none))) else (corporalaw05_FeatureRoundTrips.l1 k x0 x7 0)
def corporalaw05_FeatureRoundTrips.l1 : Nat → ByteArray → List ByteArray → Int → Option (Bool)
  | 0, _, _, _ => none
  | k + 1, x0, x7, x9 => if x9 < (wrap64 ((x7.length : Int) / 2)) then (if 0 ≤ (wrap64 ((wrap64 ((x7.length : Int) - 1)) - x9)) then (if (wrap64 ((wrap64 ((x7.length : Int) - 1)) - x9)) < (x7.length : Int) then (if 0 ≤ x9 then (if x9 < (x7.length : Int) then (corporalaw05_FeatureRoundTrips.l1 k x0 ((x7.set (x9 : Int).toNat (rdOf ByteArray.empty x7 (wrap64 ((wrap64 ((x7.length : Int) - 1)) - x9)))).set ((wrap64 ((wrap64 ((x7.length : Int) - 1)) - x9)) : Int).toNat (rdOf ByteArray.empty x7 x9)) (wrap64 (x9 + 1))) else (none)) else (none)) else (none)) else (none)) else ((feature_Format.f k x7).bind fun bt317 => (if bt317.1.toList = x0.toList then (if bt317.2 = 0 then ((corporalaw05_awake.f k).bind fun t319 => (some t319)) else (some false)) else (some false)))
end
def corporalaw05_FeatureRoundTrips.f (k : Nat) (a0 : ByteArray) (a1 : Int) : Option (Bool) := (feature_Parse.f k a0).bind fun bt302 => (if bt302.2 = 0 then (if a1 < 0 then (corporalaw05_FeatureRoundTrips.j0 k a0 a1 bt302.1 true ([] : List ByteArray)) else (corporalaw05_FeatureRoundTrips.j0 k a0 a1 bt302.1 (decide (a1 > 100)) ([] : List ByteArray))) else (corporalaw05_FeatureRoundTrips.j0 k a0 a1 bt302.1 true ([] : List ByteArray)))
theorem corporalaw05_FeatureRoundTrips.mono_l : ∀ k, (∀ y0 y1 y2 y3 y4, LeO (corporalaw05_FeatureRoundTrips.j0 k y0 y1 y2 y3 y4) (corporalaw05_FeatureRoundTrips.j0 (k + 1) y0 y1 y2 y3 y4)) ∧ (∀ y0 y1 y2 y3 y4 y5, LeO (corporalaw05_FeatureRoundTrips.l0 k y0 y1 y2 y3 y4 y5) (corporalaw05_FeatureRoundTrips.l0 (k + 1) y0 y1 y2 y3 y4 y5)) ∧ (∀ y0 y1 y2, LeO (corporalaw05_FeatureRoundTrips.l1 k y0 y1 y2) (corporalaw05_FeatureRoundTrips.l1 (k + 1) y0 y1 y2))
  | 0 => ⟨fun _ _ _ _ _ r h => by simp [corporalaw05_FeatureRoundTrips.j0] at h, fun _ _ _ _ _ _ r h => by simp [corporalaw05_FeatureRoundTrips.l0] at h, fun _ _ _ r h => by simp [corporalaw05_FeatureRoundTrips.l1] at h⟩
  | k + 1 => by
    obtain ⟨ih0, ih1, ih2⟩ := corporalaw05_FeatureRoundTrips.mono_l k
    refine ⟨?_, ?_, ?_⟩
    · intro y0 y1 y2 y3 y4
      unfold corporalaw05_FeatureRoundTrips.j0
      repeat' first
      | (with_reducible exact ih0 _ _ _ _ _)
      | (with_reducible exact ih1 _ _ _ _ _ _)
      | (with_reducible exact ih2 _ _ _)
      | (with_reducible exact corporalaw05_awake.mono _)
      | (with_reducible exact feature_Format.mono _ _)
      | (with_reducible exact feature_Parse.mono _ _)
      | (with_reducible exact LeO.refl _)
      | (with_reducible exact LeO.none _)
      | (with_reducible refine LeO.ite ?_ ?_)
      | (with_reducible refine LeO.bind ?_ (fun _ => ?_))
      | exact ih0 _ _ _ _ _
      | exact ih1 _ _ _ _ _ _
      | exact ih2 _ _ _
      | exact corporalaw05_awake.mono _
      | exact feature_Format.mono _ _
      | exact feature_Parse.mono _ _
      | exact LeO.none _
      | refine LeO.ite ?_ ?_
      | refine LeO.bind ?_ (fun _ => ?_)
    · intro y0 y1 y2 y3 y4 y5
      unfold corporalaw05_FeatureRoundTrips.l0
      repeat' first
      | (with_reducible exact ih0 _ _ _ _ _)
      | (with_reducible exact ih1 _ _ _ _ _ _)
      | (with_reducible exact ih2 _ _ _)
      | (with_reducible exact corporalaw05_awake.mono _)
      | (with_reducible exact feature_Format.mono _ _)
      | (with_reducible exact feature_Parse.mono _ _)
      | (with_reducible exact LeO.refl _)
      | (with_reducible exact LeO.none _)
      | (with_reducible refine LeO.ite ?_ ?_)
      | (with_reducible refine LeO.bind ?_ (fun _ => ?_))
      | exact ih0 _ _ _ _ _
      | exact ih1 _ _ _ _ _ _
      | exact ih2 _ _ _
      | exact corporalaw05_awake.mono _
      | exact feature_Format.mono _ _
      | exact feature_Parse.mono _ _
      | exact LeO.none _
      | refine LeO.ite ?_ ?_
      | refine LeO.bind ?_ (fun _ => ?_)
    · intro y0 y1 y2
      unfold corporalaw05_FeatureRoundTrips.l1
      repeat' first
      | (with_reducible exact ih0 _ _ _ _ _)
      | (with_reducible exact ih1 _ _ _ _ _ _)
      | (with_reducible exact ih2 _ _ _)
      | (with_reducible exact corporalaw05_awake.mono _)
      | (with_reducible exact feature_Format.mono _ _)
      | (with_reducible exact feature_Parse.mono _ _)
      | (with_reducible exact LeO.refl _)
      | (with_reducible exact LeO.none _)
      | (with_reducible refine LeO.ite ?_ ?_)
      | (with_reducible refine LeO.bind ?_ (fun _ => ?_))
      | exact ih0 _ _ _ _ _
      | exact ih1 _ _ _ _ _ _
      | exact ih2 _ _ _
      | exact corporalaw05_awake.mono _
      | exact feature_Format.mono _ _
      | exact feature_Parse.mono _ _
      | exact LeO.none _
      | refine LeO.ite ?_ ?_
      | refine LeO.bind ?_ (fun _ => ?_)
theorem corporalaw05_FeatureRoundTrips.mono : ∀ a0 a1 k, LeO (corporalaw05_FeatureRoundTrips.f k a0 a1) (corporalaw05_FeatureRoundTrips.f (k + 1) a0 a1) := by
  intro a0 a1 k
  obtain ⟨ih0, ih1, ih2⟩ := corporalaw05_FeatureRoundTrips.mono_l k
  unfold corporalaw05_FeatureRoundTrips.f
  repeat' first
      | (with_reducible exact ih0 _ _ _ _ _)
      | (with_reducible exact ih1 _ _ _ _ _ _)
      | (with_reducible exact ih2 _ _ _)
      | (with_reducible exact corporalaw05_awake.mono _)
      | (with_reducible exact feature_Format.mono _ _)
      | (with_reducible exact feature_Parse.mono _ _)
      | (with_reducible exact LeO.refl _)
      | (with_reducible exact LeO.none _)
      | (with_reducible refine LeO.ite ?_ ?_)
      | (with_reducible refine LeO.bind ?_ (fun _ => ?_))
      | exact ih0 _ _ _ _ _
      | exact ih1 _ _ _ _ _ _
      | exact ih2 _ _ _
      | exact corporalaw05_awake.mono _
      | exact feature_Format.mono _ _
      | exact feature_Parse.mono _ _
      | exact LeO.none _
      | refine LeO.ite ?_ ?_
      | refine LeO.bind ?_ (fun _ => ?_)
def corporalaw05_FeatureRoundTrips.T13 : Bool × List (List Nat × List Nat) := (true, [([], []), ([], []), ([], []), ([], []), ([3], [3]), ([4], [4]), ([], []), ([5, 6], [5, 6]), ([], []), ([], []), ([9], [9]), ([10], [10]), ([], []), ([11, 12], [11, 12]), ([8, 13], [8, 13]), ([14], [14]), ([], []), ([], []), ([16, 17], [16, 17]), ([18], [18]), ([0, 1, 0, 1, 8, 9, 10, 11, 12, 13, 14, 15, 19], [0, 1]), ([20, 15, 0, 1, 8, 9, 10, 11, 12, 13, 14, 15, 19], [15, 20]), ([2, 7, 0, 1, 2, 3, 4, 5, 6, 7, 8, 9, 10, 11, 12, 13, 14, 15, 16, 17, 18, 19, 20, 21], [2, 7]), ([22, 19, 21, 0, 1, 2, 3, 4, 5, 6, 7, 8, 9, 10, 11, 12, 13, 14, 15, 16, 17, 18, 19, 20, 21], [19, 22])])
def corporalaw05_FeatureRoundTrips.B13 : List Nat := [0, 0, 0, 0, 8, 24, 0, 120, 0, 0, 512, 1536, 0, 7680, 16128, 32512, 0, 0, 196608, 458752, 1048323, 2096899, 4194303, 8388607]
theorem corporalaw05_FeatureRoundTrips.tab13 : rtab .any (opsOf Try.f5 13) = corporalaw05_FeatureRoundTrips.T13 := by kernel_rfl
theorem corporalaw05_FeatureRoundTrips.bits13 : waitsOk corporalaw05_FeatureRoundTrips.T13.2 corporalaw05_FeatureRoundTrips.B13 = true := by kernel_rfl
set_option maxHeartbeats 8000000 in
set_option maxRecDepth 100000 in
theorem corporalaw05_FeatureRoundTrips.calls (k : Nat) (a0 : ByteArray) (a1 : Int) (r : Bool) (w : World) (h : corporalaw05_FeatureRoundTrips.f k a0 a1 = some r) :
    Calls Try.prog 5 #[.string a0, .int .i64 a1] w fun e w' => e = .returned (.bool r) ∧ Below w.heap.size w w' := by
  have HB := Aside0.mk (Below.refl w.heap.size w)
  have H : ((feature_Parse.f k a0).bind fun bt302 => (if bt302.2 = 0 then (if a1 < 0 then (corporalaw05_FeatureRoundTrips.j0 k a0 a1 bt302.1 true ([] : List ByteArray)) else (corporalaw05_FeatureRoundTrips.j0 k a0 a1 bt302.1 (decide (a1 > 100)) ([] : List ByteArray))) else (corporalaw05_FeatureRoundTrips.j0 k a0 a1 bt302.1 true ([] : List ByteArray)))) = some r := h
  clear h
  replace H := Option.bind_eq_some_iff.mp H
  obtain ⟨⟨t302, t303⟩, A30, H⟩ := H
  replace H : (if t303 = 0 then (if a1 < 0 then (corporalaw05_FeatureRoundTrips.j0 k a0 a1 t302 true ([] : List ByteArray)) else (corporalaw05_FeatureRoundTrips.j0 k a0 a1 t302 (decide (a1 > 100)) ([] : List ByteArray))) else (corporalaw05_FeatureRoundTrips.j0 k a0 a1 t302 true ([] : List ByteArray))) = some r := H
  have A3 := Aside0.mk A30
  clear A30
  have HC4 := Aside0.mk H
  clear H
  go_enter Try.func5, Try.ntmps5
  go_upto_region 2 with (first | ((with_reducible refine gate_callee (f := 12) rfl ?_); refine goesL_ (some 14) rfl rfl Try.func12 (by kernel_rfl) rfl #[.string a0] rfl (by (try simp only [List.map_toArray, List.map_cons, List.map_nil]); first | done | rfl | (simp only [List.length_drop, List.length_take]; rfl)) ?_; (with_reducible refine (feature_Parse.calls k a0 t302 t303 _ A3.out).mono ?_); rintro e w5 ⟨v304, rfl, ho0, hb⟩; refine ⟨_, rfl, ?_⟩; have n0_ := Aside0.mk (Kd.R_lower ho0 (below_size (by repeat (first | (with_reducible first | exact HB.out | apply below_alloc | apply pw_below_drewN | apply below_drew1) | exact HB.out)))); have n1_ := Aside0.mk (below_step (by repeat (first | (with_reducible first | exact HB.out | apply below_alloc | apply pw_below_drewN | apply below_drew1) | exact HB.out)) hb); clear HB; have HO305 := n0_; have HB := n1_; clear n0_ n1_; (try clear hb); (try clear hb2); (try clear hk); (try clear hi); (try clear ho0)))
  (try simp only [Act.put, List.setIfInBounds_toArray, List.set_cons_zero, List.set_cons_succ])
  go_cut [26] (fun v26 wc => ∃ (kq : Nat) (x26_3 : Bool), v26 = .bool x26_3 ∧ Aside0 (corporalaw05_FeatureRoundTrips.j0 kq a0 a1 t302 x26_3 ([] : List ByteArray) = some r) ∧ Aside0 (kq ≤ k) ∧ Aside0 (Kd.R Kd.string 9 wc w.heap.size (fun k_ => some k_ ≠ ((.slice none 0 0) : Value).ownBlock) v304 t302) ∧ Aside0 (Kd.R Kd.string 9 wc w.heap.size (fun k_ => some k_ ≠ (v304 : Value).ownBlock) (.slice none 0 0) ([] : List ByteArray)) ∧ Aside0 (Below w.heap.size w wc))
  case first =>
    have H := HC4.out
    clear HC4
    by_cases c6 : t303 = 0
    · rw [if_pos c6] at H
      have c6b0 : (t303 == 0) = true := beq_iff_eq.mpr c6
      have c6b1 : (t303 != 0) = false := bne_eq_false_iff_eq.mpr c6
      clear c6
      (first | rw [c6b0] | (simp only [i64_w, i32_w]; rw [c6b0]) | skip)
      by_cases c7 : a1 < 0
      · rw [if_pos c7] at H
        have c7b0 : decide (a1 < 0) = true := decide_eq_true c7
        clear c7
        have H' := Aside0.mk H
        clear H
        go_wp2
        go_meet
        case rel => exact ⟨_, (true), (by first | rfl | (simp; done) | (simp [*]; done)), H', ⟨by first | omega | exact Nat.le_refl _⟩, ⟨by (with_reducible repeat (first | apply Kd.R_alloc | apply Kd.R_drewN | apply Kd.R_drew)); exact Kd.R_mono HO305.out (fun _ hk => (by simp [Value.ownBlock]))⟩, ⟨by first | exact Kd.R_nil _ _ _ _ _ | exact Kd.N_nil _ _ _ _ _ | exact Kd.V_nil _ _ _ _ _ | exact Kd.Q_nil _ _ _ _ _ | exact Kd.S_nil _ _ _ _ _⟩, ⟨by repeat (first | (with_reducible first | exact HB.out | apply below_alloc | apply pw_below_drewN | apply below_drew1) | exact HB.out)⟩⟩
      · rw [if_neg c7] at H
        have c7b0 : decide (a1 < 0) = false := decide_eq_false c7
        clear c7
        have H' := Aside0.mk H
        clear H
        go_wp2
        go_meet
        case rel => exact ⟨_, (decide (a1 > 100)), (by first | rfl | (simp; done) | (simp [*]; done)), H', ⟨by first | omega | exact Nat.le_refl _⟩, ⟨by (with_reducible repeat (first | apply Kd.R_alloc | apply Kd.R_drewN | apply Kd.R_drew)); exact Kd.R_mono HO305.out (fun _ hk => (by simp [Value.ownBlock]))⟩, ⟨by first | exact Kd.R_nil _ _ _ _ _ | exact Kd.N_nil _ _ _ _ _ | exact Kd.V_nil _ _ _ _ _ | exact Kd.Q_nil _ _ _ _ _ | exact Kd.S_nil _ _ _ _ _⟩, ⟨by repeat (first | (with_reducible first | exact HB.out | apply below_alloc | apply pw_below_drewN | apply below_drew1) | exact HB.out)⟩⟩
    · rw [if_neg c6] at H
      have c6b0 : (t303 == 0) = false := beq_eq_false_iff_ne.mpr c6
      have c6b1 : (t303 != 0) = true := bne_iff_ne.mpr c6
      (first | rw [c6b0] | (simp only [i64_w, i32_w]; rw [c6b0]) | skip)
      have H' := Aside0.mk H
      clear H
      go_wp2
      go_meet
      case rel => exact ⟨_, (true), (by first | rfl | (simp; done) | (simp [*]; done)), H', ⟨by first | omega | exact Nat.le_refl _⟩, ⟨by (with_reducible repeat (first | apply Kd.R_alloc | apply Kd.R_drewN | apply Kd.R_drew)); exact Kd.R_mono HO305.out (fun _ hk => (by simp [Value.ownBlock]))⟩, ⟨by first | exact Kd.R_nil _ _ _ _ _ | exact Kd.N_nil _ _ _ _ _ | exact Kd.V_nil _ _ _ _ _ | exact Kd.Q_nil _ _ _ _ _ | exact Kd.S_nil _ _ _ _ _⟩, ⟨by repeat (first | (with_reducible first | exact HB.out | apply below_alloc | apply pw_below_drewN | apply below_drew1) | exact HB.out)⟩⟩
  case rest =>
    clear HC4
    try clear c1
    try clear p2
    try clear c5
    try clear c6
    try clear c6b0
    try clear c6b1
    try clear c7
    try clear c7b0
    obtain ⟨kq, x26_3, rfl, HA, HJ3, HO_5, HO_91, HB⟩ := hcut
    cases kq with
    | zero => exact absurd HA.out (by simp [corporalaw05_FeatureRoundTrips.j0])
    | succ kj3 =>
      have H := HA.out
      clear HA
      simp only [corporalaw05_FeatureRoundTrips.j0] at H
      by_cases c8 : x26_3 = true
      · subst c8
        have H1 : (some true) = some r := by rw [if_pos rfl] at H; exact H
        clear H
        have H := H1
        clear H1
        obtain rfl := Option.some.inj H
        go_wp2
        go_ret
        exact ⟨by first | rfl | (simp [errW_none, errW_some] <;> rfl) | (simp [*, errW_none, errW_some] <;> rfl), by repeat (first | (with_reducible first | exact HB.out | apply below_alloc | apply pw_below_drewN | apply below_drew1) | exact HB.out)⟩
      · replace c8 := Bool.eq_false_iff.mpr c8
        subst c8
        have H1 : (if ([] : List ByteArray).length + t302.length < 8796093022208 then (corporalaw05_FeatureRoundTrips.l0 kj3 a0 a1 t302 (([] : List ByteArray) ++ t302) (t302.length : Int) 0) else (none)) = some r := by rw [if_neg (show ¬ (false = true) by decide)] at H; exact H
        clear H
        have H := H1
        clear H1
        by_cases c9 : ([] : List ByteArray).length + t302.length < 8796093022208
        · rw [if_pos c9] at H
          have LMc9 := Aside0.mk c9
          clear c9
          obtain ⟨y306, hy306⟩ : ∃ y_ : List ByteArray, y_ = (([] : List ByteArray) ++ t302) := ⟨_, rfl⟩
          replace H : (corporalaw05_FeatureRoundTrips.l0 kj3 a0 a1 t302 y306 (t302.length : Int) 0) = some r := by first | (rw [hy306]; with_reducible exact H) | (have H2_ := (Option.bind_some _ _).symm.trans H; rw [hy306]; with_reducible exact H2_) | (have H2_ := (Option.bind_some _ _).symm.trans H; with_reducible exact H2_) | with_reducible exact H | (rw [hy306]; exact H) | exact H
          have Ny306 := Aside0.mk hy306
          clear hy306
          have H' := Aside0.mk H
          clear H
          obtain ⟨Ao11, co11, eo11⟩ := Kd.R_slice HO_5.out
          subst eo11
          go_wp2_with (first | ((with_reducible refine gate_builtin (b := .append) (xs := #[.const (.slice none 0 0), .tmp 27]) rfl ?_); at_builtin; refine Kd.R_append_rows Kd.string (w0 := w) w.heap.size rfl (.const (.slice none 0 0)) (.tmp 27) 23 9 (.string ⟨#[]⟩) 16 rfl Try.underlying23 info9 rfl (by decide) (by omega) (.slice none 0 0) ([] : List ByteArray) t302 _ _ _ (fun k_ => some k_ ≠ (.slice Ao11 t302.length co11 : Value).ownBlock) (fun _ => False) rfl rfl ?aO ?aR (fun _ _ h => h) (fun _ h => h.elim) ?aF ?aB ?aS ?aL ?_; (case aR => repeat (first | exact (Kd.R_reads' HO_5.out).2.2 | (with_reducible refine Kd.C_alloc ?_ _) | (with_reducible refine Kd.C_drewN ?_ _) | (with_reducible refine Kd.C_drew ?_))); (case aB => exact (by repeat (first | (with_reducible first | exact HB.out | apply below_alloc | apply pw_below_drewN | apply below_drew1) | exact HB.out))); (case aF => exact (fun k_ hk => Kd.fresh' (Kd.R_lt (by (with_reducible repeat (first | apply Kd.R_alloc | apply Kd.R_drewN | apply Kd.R_drew)); exact HO_5.out)) k_ hk)); (case aO => exact (by (with_reducible repeat (first | apply Kd.R_alloc | apply Kd.R_drewN | apply Kd.R_drew)); exact HO_91.out)); (case aS => exact (below_size (by repeat (first | (with_reducible first | exact HB.out | apply below_alloc | apply pw_below_drewN | apply below_drew1) | exact HB.out)))); (case aL => have := LMc9.out; omega); intro v307 w10 ho hb hg hat; rw [← Ny306.out] at ho; have n0_ := Aside0.mk (Kd.R_after (ok := (fun _ => True)) (by (with_reducible repeat (first | apply Kd.R_alloc | apply Kd.R_drewN | apply Kd.R_drew)); exact Kd.R_mono HO_5.out (fun _ hk => ⟨trivial, hk⟩)) hg hat); have n1_ := Aside0.mk (hb); have n2_ := Aside0.mk (ho); clear HO_5; clear HB; clear HO_91; have HO_5 := n0_; have HB := n1_; have HO308 := n2_; clear n0_ n1_ n2_; clear ho hb hg hat))
          go_loopg [7, 31] kj3 (fun kq v7 v31 w' => ∃ (x7_2 : List ByteArray) (x31_2 : Int), v31 = .int .i64 x31_2 ∧ Aside0 (corporalaw05_FeatureRoundTrips.l0 kq a0 a1 t302 x7_2 (t302.length : Int) x31_2 = some r) ∧ Aside0 (kq ≤ kj3) ∧ Aside0 (Kd.R Kd.string 9 w' w.heap.size (fun k_ => some k_ ≠ (v7 : Value).ownBlock) (.slice Ao11 t302.length co11) t302) ∧ Aside0 (Kd.R Kd.string 9 w' w.heap.size (fun k_ => some k_ ≠ ((.slice Ao11 t302.length co11) : Value).ownBlock) v7 x7_2) ∧ Aside0 (Below w.heap.size w w'))
          case atStart => exact ⟨(y306), (0), (by first | rfl | (simp; done) | (simp [*]; done)), H', ⟨Nat.le_refl _⟩, ⟨by (with_reducible repeat (first | apply Kd.R_alloc | apply Kd.R_drewN | apply Kd.R_drew)); exact Kd.R_mono HO_5.out (fun _ hk => hk.2)⟩, ⟨by (with_reducible repeat (first | apply Kd.R_alloc | apply Kd.R_drewN | apply Kd.R_drew)); exact HO308.out⟩, ⟨by repeat (first | (with_reducible first | exact HB.out | apply below_alloc | apply pw_below_drewN | apply below_drew1) | exact HB.out)⟩⟩
          case round =>
            clear H'
            try clear c1
            try clear p2
            try clear c5
            try clear c6
            try clear c6b0
            try clear c6b1
            try clear c7
            try clear c7b0
            try clear c8
            try clear c9
            try clear p2
            obtain ⟨x7_2, x31_2, rfl, HA, HK2, HO_5, HO_7, HB⟩ := hrel
            cases gk with
            | zero => exact absurd HA.out (by simp [corporalaw05_FeatureRoundTrips.l0])
            | succ k2 =>
              have H := HA.out
              clear HA
              simp only [corporalaw05_FeatureRoundTrips.l0] at H
              by_cases c12 : x31_2 < (t302.length : Int)
              · rw [if_pos c12] at H
                have c12b0 : decide (x31_2 < (t302.length : Int)) = true := decide_eq_true c12
                clear c12
                by_cases c13 : (t302.length : Int) = 0
                · rw [if_pos c13] at H
                  exact absurd H (by simp)
                · rw [if_neg c13] at H
                  have c13b0 : ((t302.length : Int) == 0) = false := beq_eq_false_iff_ne.mpr c13
                  have c13b1 : ((t302.length : Int) != 0) = true := bne_iff_ne.mpr c13
                  have c13b2 : ¬ (t302 = []) := fun h_ => c13 (by rw [h_]; rfl)
                  obtain ⟨ji14, hji14⟩ : ∃ j_ : Int, (Int.tmod (wrap64 (x31_2 + a1)) (t302.length : Int)) = j_ := ⟨_, rfl⟩
                  replace H : (if 0 ≤ (ji14) then (if (ji14) < (t302.length : Int) then (if x7_2.length < 8796093022208 then (corporalaw05_FeatureRoundTrips.l0 k2 a0 a1 t302 (x7_2 ++ [rdOf ByteArray.empty t302 (ji14)]) (t302.length : Int) (wrap64 (x31_2 + 1))) else (none)) else (none)) else (none)) = some r := by first | (rw [hji14] at H; exact H) | (simp only [hji14] at H ⊢; exact H)
                  by_cases c15 : 0 ≤ (ji14)
                  · rw [if_pos c15] at H
                    have c15b0 : decide (0 ≤ (ji14)) = true := decide_eq_true c15
                    clear c15
                    by_cases c16 : (ji14) < (t302.length : Int)
                    · rw [if_pos c16] at H
                      have c16b0 : decide ((ji14) < (t302.length : Int)) = true := decide_eq_true c16
                      clear c16
                      by_cases c17 : x7_2.length < 8796093022208
                      · rw [if_pos c17] at H
                        have LMc17 := Aside0.mk c17
                        clear c17
                        obtain ⟨y310, hy310⟩ : ∃ y_ : List ByteArray, y_ = (x7_2 ++ [rdOf ByteArray.empty t302 (ji14)]) := ⟨_, rfl⟩
                        replace H : (corporalaw05_FeatureRoundTrips.l0 k2 a0 a1 t302 y310 (t302.length : Int) (wrap64 (x31_2 + 1))) = some r := by first | (rw [hy310]; with_reducible exact H) | (have H2_ := (Option.bind_some _ _).symm.trans H; rw [hy310]; with_reducible exact H2_) | (have H2_ := (Option.bind_some _ _).symm.trans H; with_reducible exact H2_) | with_reducible exact H | (rw [hy310]; exact H) | exact H
                        have Ny310 := Aside0.mk hy310
                        clear hy310
                        have H' := Aside0.mk H
                        clear H
                        have p309 : 0 ≤ ((ji14) : Int) := of_decide_eq_true (by first | (with_reducible assumption) | assumption)
                        have q309 : (ji14) < (t302.length : Int) := of_decide_eq_true (by first | (with_reducible assumption) | assumption)
                        obtain ⟨ad309, e309, hx309_0⟩ := Kd.at_string (Kd.R_reads' HO_5.out).2.2 (ji14) p309 q309
                        cases e309
                        replace p309 := eq_true p309
                        replace q309 := eq_true q309
                        go_wp2_with (first | ((with_reducible refine gate_builtin (b := .append) (xs := #[.tmp 34, .tmp 44]) rfl ?_); at_builtin; refine Kd.R_append Kd.string (w0 := w) w.heap.size rfl (.tmp 34) (.tmp 44) 23 9 (.string ⟨#[]⟩) 16 rfl Try.underlying23 info9 rfl (by decide) (by omega) u7 x7_2 (rdOf ByteArray.empty t302 (ji14)) [.string (rdOf ByteArray.empty t302 (ji14))] (fun k_ => some k_ ≠ (.slice (some ad309) t302.length co11 : Value).ownBlock) (fun _ => False) rfl rfl ?aP (fun _ hk => hk.elim) ?aF ?aO ?aB ?aS ?aL ?_; (case aP => exact rfl); (case aB => exact (by repeat (first | (with_reducible first | exact HB.out | apply below_alloc | apply pw_below_drewN | apply below_drew1) | exact HB.out))); (case aF => exact (fun k_ hk => Kd.fresh' (Kd.R_lt (by (with_reducible repeat (first | apply Kd.R_alloc | apply Kd.R_drewN | apply Kd.R_drew)); exact HO_5.out)) k_ hk)); (case aO => exact (by (with_reducible repeat (first | apply Kd.R_alloc | apply Kd.R_drewN | apply Kd.R_drew)); exact HO_7.out)); (case aS => exact (below_size (by repeat (first | (with_reducible first | exact HB.out | apply below_alloc | apply pw_below_drewN | apply below_drew1) | exact HB.out)))); (case aL => have := LMc17.out; omega); intro v311 w18 ho hb hg hat; rw [← Ny310.out] at ho; have n0_ := Aside0.mk (Kd.R_after (ok := (fun _ => True)) (by (with_reducible repeat (first | apply Kd.R_alloc | apply Kd.R_drewN | apply Kd.R_drew)); exact Kd.R_mono HO_5.out (fun _ hk => ⟨trivial, hk⟩)) hg hat); have n1_ := Aside0.mk (hb); have n2_ := Aside0.mk (ho); clear HO_5; clear HB; clear HO_7; have HO_5 := n0_; have HB := n1_; have HO312 := n2_; clear n0_ n1_ n2_; clear ho hb hg hat))
                        go_roundg k2
                        case measure => have := HJ3.out; have := HK2.out; omega
                        case rel => exact ⟨(y310), (wrap64 (x31_2 + 1)), (by first | rfl | (simp; done) | (simp [*]; done)), H', ⟨by have := HJ3.out; have := HK2.out; omega⟩, ⟨by (with_reducible repeat (first | apply Kd.R_alloc | apply Kd.R_drewN | apply Kd.R_drew)); exact Kd.R_mono HO_5.out (fun _ hk => hk.2)⟩, ⟨by (with_reducible repeat (first | apply Kd.R_alloc | apply Kd.R_drewN | apply Kd.R_drew)); exact HO312.out⟩, ⟨by repeat (first | (with_reducible first | exact HB.out | apply below_alloc | apply pw_below_drewN | apply below_drew1) | exact HB.out)⟩⟩
                      · rw [if_neg c17] at H
                        exact absurd H (by simp)
                    · rw [if_neg c16] at H
                      exact absurd H (by simp)
                  · rw [if_neg c15] at H
                    exact absurd H (by simp)
              · rw [if_neg c12] at H
                have c12b0 : decide (x31_2 < (t302.length : Int)) = false := decide_eq_false c12
                clear c12
                have H' := Aside0.mk H
                clear H
                go_wp2
                go_loopg [9] k2 (fun kq v9 w' => ∃ (x7_3 : List ByteArray) (x9_3 : Int), v9 = .int .i64 x9_3 ∧ Aside0 (corporalaw05_FeatureRoundTrips.l1 kq a0 x7_3 x9_3 = some r) ∧ Aside0 (kq ≤ k2) ∧ Aside0 (Kd.R Kd.string 9 w' w.heap.size (fun _ => True) u7 x7_3) ∧ Aside0 (Below w.heap.size w w'))
                case atStart => exact ⟨(x7_2), (0), (by first | rfl | (simp; done) | (simp [*]; done)), H', ⟨Nat.le_refl _⟩, ⟨by (with_reducible repeat (first | apply Kd.R_alloc | apply Kd.R_drewN | apply Kd.R_drew)); exact Kd.R_mono HO_7.out (fun _ hk => trivial)⟩, ⟨by repeat (first | (with_reducible first | exact HB.out | apply below_alloc | apply pw_below_drewN | apply below_drew1) | exact HB.out)⟩⟩
                case round =>
                  clear H'
                  try clear c1
                  try clear p2
                  try clear p3
                  try clear q3
                  try clear hx3
                  try clear c5
                  try clear c6
                  try clear c6b0
                  try clear c6b1
                  try clear p6
                  try clear c7
                  try clear c7b0
                  try clear c8
                  try clear c9
                  try clear c12
                  try clear c12b0
                  try clear c13
                  try clear c13b0
                  try clear c13b1
                  try clear c13b2
                  try clear c15
                  try clear c15b0
                  try clear c16
                  try clear c16b0
                  try clear c17
                  try clear hx309_0
                  try clear p2
                  try clear p309
                  try clear q309
                  obtain ⟨x7_3, x9_3, rfl, HA, HK3, HO_7, HB⟩ := hrel
                  cases gk with
                  | zero => exact absurd HA.out (by simp [corporalaw05_FeatureRoundTrips.l1])
                  | succ k3 =>
                    have H := HA.out
                    clear HA
                    simp only [corporalaw05_FeatureRoundTrips.l1] at H
                    by_cases c19 : x9_3 < (wrap64 ((x7_3.length : Int) / 2))
                    · rw [if_pos c19] at H
                      have c19b0 : decide (x9_3 < (wrap64 ((x7_3.length : Int) / 2))) = true := decide_eq_true c19
                      clear c19
                      obtain ⟨ji20, hji20⟩ : ∃ j_ : Int, (wrap64 ((wrap64 ((x7_3.length : Int) - 1)) - x9_3)) = j_ := ⟨_, rfl⟩
                      replace H : (if 0 ≤ (ji20) then (if (ji20) < (x7_3.length : Int) then (if 0 ≤ x9_3 then (if x9_3 < (x7_3.length : Int) then (corporalaw05_FeatureRoundTrips.l1 k3 a0 ((x7_3.set (x9_3 : Int).toNat (rdOf ByteArray.empty x7_3 (ji20))).set ((ji20) : Int).toNat (rdOf ByteArray.empty x7_3 x9_3)) (wrap64 (x9_3 + 1))) else (none)) else (none)) else (none)) else (none)) = some r := by first | (rw [hji20] at H; exact H) | (simp only [hji20] at H ⊢; exact H)
                      have hji20w : (IntKind.i64.wrap ((wrap64 ((x7_3.length : Int) - 1)) - x9_3)) = ji20 := (i64_w _).trans hji20
                      by_cases c21 : 0 ≤ (ji20)
                      · rw [if_pos c21] at H
                        have c21b0 : decide (0 ≤ (ji20)) = true := decide_eq_true c21
                        clear c21
                        by_cases c22 : (ji20) < (x7_3.length : Int)
                        · rw [if_pos c22] at H
                          have c22b0 : decide ((ji20) < (x7_3.length : Int)) = true := decide_eq_true c22
                          clear c22
                          by_cases c23 : 0 ≤ x9_3
                          · rw [if_pos c23] at H
                            have c23b0 : decide (0 ≤ x9_3) = true := decide_eq_true c23
                            clear c23
                            by_cases c24 : x9_3 < (x7_3.length : Int)
                            · rw [if_pos c24] at H
                              have c24b0 : decide (x9_3 < (x7_3.length : Int)) = true := decide_eq_true c24
                              clear c24
                              obtain ⟨y315, hy315⟩ : ∃ y_ : List ByteArray, y_ = (x7_3.set (x9_3 : Int).toNat (rdOf ByteArray.empty x7_3 (ji20))) := ⟨_, rfl⟩
                              replace H : (corporalaw05_FeatureRoundTrips.l1 k3 a0 (y315.set ((ji20) : Int).toNat (rdOf ByteArray.empty x7_3 x9_3)) (wrap64 (x9_3 + 1))) = some r := by first | (rw [hy315]; with_reducible exact H) | (have H2_ := (Option.bind_some _ _).symm.trans H; rw [hy315]; with_reducible exact H2_) | (have H2_ := (Option.bind_some _ _).symm.trans H; with_reducible exact H2_) | with_reducible exact H | (rw [hy315]; exact H) | exact H
                              have Ny315 := Aside0.mk hy315
                              clear hy315
                              obtain ⟨y316, hy316⟩ : ∃ y_ : List ByteArray, y_ = (y315.set ((ji20) : Int).toNat (rdOf ByteArray.empty x7_3 x9_3)) := ⟨_, rfl⟩
                              replace H : (corporalaw05_FeatureRoundTrips.l1 k3 a0 y316 (wrap64 (x9_3 + 1))) = some r := by first | (rw [hy316]; with_reducible exact H) | (have H2_ := (Option.bind_some _ _).symm.trans H; rw [hy316]; with_reducible exact H2_) | (have H2_ := (Option.bind_some _ _).symm.trans H; with_reducible exact H2_) | with_reducible exact H | (rw [hy316]; exact H) | exact H
                              have Ny316 := Aside0.mk hy316
                              clear hy316
                              have H' := Aside0.mk H
                              clear H
                              obtain ⟨Ao27, co27, eo27⟩ := Kd.R_slice HO_7.out
                              subst eo27
                              try go_wp2
                              have n0_ := Aside0.mk (Kd.R_drew HO_7.out)
                              have n1_ := Aside0.mk (below_drew1 HB.out)
                              clear HO_7
                              clear HB
                              have HO_7 := n0_
                              have HB := n1_
                              clear n0_ n1_
                              have p313 : 0 ≤ ((ji20) : Int) := of_decide_eq_true (by first | (with_reducible assumption) | assumption)
                              have q313 : (ji20) < (x7_3.length : Int) := of_decide_eq_true (by first | (with_reducible assumption) | assumption)
                              obtain ⟨ad313, e313, hx313_0⟩ := Kd.at_string (Kd.R_reads' HO_7.out).2.2 (ji20) p313 q313
                              cases e313
                              replace p313 := eq_true p313
                              replace q313 := eq_true q313
                              have p314 : 0 ≤ (x9_3 : Int) := of_decide_eq_true (by first | (with_reducible assumption) | assumption)
                              have q314 : x9_3 < (x7_3.length : Int) := of_decide_eq_true (by first | (with_reducible assumption) | assumption)
                              obtain ⟨ad314, e314, hx314_0⟩ := Kd.at_string (Kd.R_reads' HO_7.out).2.2 x9_3 p314 q314
                              obtain rfl : ad313 = ad314 := (by injection e314)
                              replace p314 := eq_true p314
                              replace q314 := eq_true q314
                              have p25 : 0 ≤ (x9_3 : Int) := of_decide_eq_true (by first | (with_reducible assumption) | assumption)
                              have q25 : (x9_3 : Int) < ((x7_3.length : Int) : Int) := of_decide_eq_true (by first | (with_reducible assumption) | assumption)
                              obtain ⟨go25, co25, eo25, gb25, gl25, cl25, HG25⟩ := Kd.R_form HO_7.out (by omega)
                              (first | cases eo25 | (injection eo25 with ea_ en_ ec_; (first | subst ea_ | (injection ea_ with ea_; subst ea_)); subst ec_; clear en_))
                              have GB25 := Aside0.mk gb25
                              have GG25 := Aside0.mk HG25
                              clear gb25 gl25 HG25
                              (first | simp only [add_plain] at hx313_0 | skip)
                              (first | simp only [add_plain] at hx314_0 | skip)
                              obtain ⟨hx25_0, hf25_0⟩ := Kd.R_celln (⟨#[]⟩ : ByteArray) HO_7.out (x9_3 : Int) p25 q25
                              replace p25 := eq_true p25
                              replace q25 := eq_true q25
                              have HP29 := Kd.R_putn HO_7.out (x9_3 : Int) (rdOf ByteArray.empty x7_3 (ji20))
                              rw [← Ny315.out] at HP29
                              have HQ29 := Aside0.mk HP29
                              clear HP29
                              have p26 : 0 ≤ ((ji20) : Int) := of_decide_eq_true (by first | (with_reducible assumption) | assumption)
                              have q26 : ((ji20) : Int) < ((x7_3.length : Int) : Int) := of_decide_eq_true (by first | (with_reducible assumption) | assumption)
                              obtain ⟨hx26_0, hf26_0⟩ := Kd.R_celln (⟨#[]⟩ : ByteArray) HQ29.out ((ji20) : Int) p26 q26
                              replace p26 := eq_true p26
                              replace q26 := eq_true q26
                              have HP30 := Kd.R_putn HQ29.out ((ji20) : Int) (rdOf ByteArray.empty x7_3 x9_3)
                              rw [← Ny316.out] at HP30
                              have HQ30 := Aside0.mk HP30
                              clear HP30
                              refine start_ (n := 24) (S := fun w' => w'.cell? ⟨go25, ((ji20)).toNat, none⟩ = some (.string (rdOf ByteArray.empty x7_3 (ji20))) ∧ w'.cell? ⟨go25, (x9_3).toNat, none⟩ = some (.string (rdOf ByteArray.empty x7_3 x9_3))) (ds := [21, 23]) #[false, false, false, false, false, false, false, false, false, false, false, false, false, false, false, false, false, false, false, false, false, false, false, false] (by kernel_rfl) rfl rfl ⟨hx313_0, hx314_0⟩ (fun hHeld => ?_); refine with_tabW corporalaw05_FeatureRoundTrips.tab13 corporalaw05_FeatureRoundTrips.bits13 (fun HT_ HW_ => ?_)
                              generalize wr.drew = w28 at HO_7 HB GG25 HQ29 HQ30 hf25_0 hf26_0 hx25_0 hx26_0 hx313_0 hx314_0 hHeld ⊢
                              refine pure_ (i := 0) (N := some 54) (v := ?_) (a' := ?_) #[true, false, false, false, false, false, false, false, false, false, false, false, false, false, false, false, false, false, false, false, false, false, false, false] rfl rfl (any_of HT_.out (by kernel_rfl)) (fun _ _ _ h => h) (Or.inl ⟨by rfl, ?_⟩) ?_ ?_
                              rotate_left
                              · intro w'
                                go_simp
                                with_reducible rfl
                              rotate_left
                              · simp only [Act.put, List.setIfInBounds_toArray, List.set_cons_zero, List.set_cons_succ, i64_w, i32_w]
                                rfl
                              refine pure_ (i := 1) (N := some 55) (v := ?_) (a' := ?_) #[true, true, false, false, false, false, false, false, false, false, false, false, false, false, false, false, false, false, false, false, false, false, false, false] rfl rfl (any_of HT_.out (by kernel_rfl)) (fun _ _ _ h => h) (Or.inl ⟨by rfl, ?_⟩) ?_ ?_
                              rotate_left
                              · intro w'
                                go_simp
                                with_reducible rfl
                              rotate_left
                              · simp only [Act.put, List.setIfInBounds_toArray, List.set_cons_zero, List.set_cons_succ, i64_w, i32_w]
                                rfl
                              refine pure_ (i := 2) (N := some 56) (v := ?_) (a' := ?_) #[true, true, true, false, false, false, false, false, false, false, false, false, false, false, false, false, false, false, false, false, false, false, false, false] rfl rfl (any_of HT_.out (by kernel_rfl)) (fun _ _ _ h => h) (Or.inl ⟨by rfl, ?_⟩) ?_ ?_
                              rotate_left
                              · intro w'
                                go_simp
                                with_reducible rfl
                              rotate_left
                              · simp only [Act.put, List.setIfInBounds_toArray, List.set_cons_zero, List.set_cons_succ, i64_w, i32_w]
                                rfl
                              refine pure_ (i := 3) (N := some 57) (v := ?_) (a' := ?_) #[true, true, true, true, false, false, false, false, false, false, false, false, false, false, false, false, false, false, false, false, false, false, false, false] rfl rfl (any_of HT_.out (by kernel_rfl)) (fun _ _ _ h => h) (Or.inl ⟨by rfl, ?_⟩) ?_ ?_
                              rotate_left
                              · intro w'
                                go_simp
                                with_reducible rfl
                              rotate_left
                              · simp only [Act.put, List.setIfInBounds_toArray, List.set_cons_zero, List.set_cons_succ, i64_w, i32_w]
                                rfl
                              refine pure_ (i := 4) (N := some 58) (v := ?_) (a' := ?_) #[true, true, true, true, true, false, false, false, false, false, false, false, false, false, false, false, false, false, false, false, false, false, false, false] rfl rfl (any_of HT_.out (by kernel_rfl)) (fun _ _ _ h => h) (Or.inl ⟨by rfl, ?_⟩) ?_ ?_
                              rotate_left
                              · intro w'
                                go_simp
                                with_reducible rfl
                              rotate_left
                              · simp only [Act.put, List.setIfInBounds_toArray, List.set_cons_zero, List.set_cons_succ, i64_w, i32_w]
                                rfl
                              refine pure_ (i := 5) (N := some 59) (v := ?_) (a' := ?_) #[true, true, true, true, true, true, false, false, false, false, false, false, false, false, false, false, false, false, false, false, false, false, false, false] rfl rfl (any_of HT_.out (by kernel_rfl)) (fun _ _ _ h => h) (Or.inl ⟨by rfl, ?_⟩) ?_ ?_
                              rotate_left
                              · intro w'
                                go_simp
                                with_reducible rfl
                              rotate_left
                              · simp only [Act.put, List.setIfInBounds_toArray, List.set_cons_zero, List.set_cons_succ, i64_w, i32_w]
                                rfl
                              refine pure_ (i := 6) (N := some 60) (v := ?_) (a' := ?_) #[true, true, true, true, true, true, true, false, false, false, false, false, false, false, false, false, false, false, false, false, false, false, false, false] rfl rfl (any_of HT_.out (by kernel_rfl)) (fun _ _ _ h => h) (Or.inl ⟨by rfl, ?_⟩) ?_ ?_
                              rotate_left
                              · intro w'
                                go_simp
                                with_reducible rfl
                              rotate_left
                              · simp only [Act.put, List.setIfInBounds_toArray, List.set_cons_zero, List.set_cons_succ, i64_w, i32_w]
                                rfl
                              refine pure_ (i := 7) (N := some 61) (v := ?_) (a' := ?_) #[true, true, true, true, true, true, true, true, false, false, false, false, false, false, false, false, false, false, false, false, false, false, false, false] rfl rfl (any_of HT_.out (by kernel_rfl)) (fun _ _ _ h => h) (Or.inl ⟨by rfl, ?_⟩) ?_ ?_
                              rotate_left
                              · intro w'
                                go_simp
                                with_reducible rfl
                              rotate_left
                              · simp only [Act.put, List.setIfInBounds_toArray, List.set_cons_zero, List.set_cons_succ, i64_w, i32_w]
                                rfl
                              refine pure_ (i := 8) (N := some 62) (v := ?_) (a' := ?_) #[true, true, true, true, true, true, true, true, true, false, false, false, false, false, false, false, false, false, false, false, false, false, false, false] rfl rfl (any_of HT_.out (by kernel_rfl)) (fun _ _ _ h => h) (Or.inl ⟨by rfl, ?_⟩) ?_ ?_
                              rotate_left
                              · intro w'
                                go_simp
                                with_reducible rfl
                              rotate_left
                              · simp only [Act.put, List.setIfInBounds_toArray, List.set_cons_zero, List.set_cons_succ, i64_w, i32_w]
                                rfl
                              refine pure_ (i := 9) (N := some 63) (v := ?_) (a' := ?_) #[true, true, true, true, true, true, true, true, true, true, false, false, false, false, false, false, false, false, false, false, false, false, false, false] rfl rfl (any_of HT_.out (by kernel_rfl)) (fun _ _ _ h => h) (Or.inl ⟨by rfl, ?_⟩) ?_ ?_
                              rotate_left
                              · intro w'
                                go_simp
                                with_reducible rfl
                              rotate_left
                              · simp only [Act.put, List.setIfInBounds_toArray, List.set_cons_zero, List.set_cons_succ, i64_w, i32_w]
                                rfl
                              refine pure_ (i := 10) (N := some 64) (v := ?_) (a' := ?_) #[true, true, true, true, true, true, true, true, true, true, true, false, false, false, false, false, false, false, false, false, false, false, false, false] rfl rfl (any_of HT_.out (by kernel_rfl)) (fun _ _ _ h => h) (Or.inl ⟨by rfl, ?_⟩) ?_ ?_
                              rotate_left
                              · intro w'
                                go_simp
                                with_reducible rfl
                              rotate_left
                              · simp only [Act.put, List.setIfInBounds_toArray, List.set_cons_zero, List.set_cons_succ, i64_w, i32_w]
                                rfl
                              refine pure_ (i := 11) (N := some 65) (v := ?_) (a' := ?_) #[true, true, true, true, true, true, true, true, true, true, true, true, false, false, false, false, false, false, false, false, false, false, false, false] rfl rfl (any_of HT_.out (by kernel_rfl)) (fun _ _ _ h => h) (Or.inl ⟨by rfl, ?_⟩) ?_ ?_
                              rotate_left
                              · intro w'
                                go_simp
                                with_reducible rfl
                              rotate_left
                              · simp only [Act.put, List.setIfInBounds_toArray, List.set_cons_zero, List.set_cons_succ, i64_w, i32_w]
                                rfl
                              refine pure_ (i := 12) (N := some 66) (v := ?_) (a' := ?_) #[true, true, true, true, true, true, true, true, true, true, true, true, true, false, false, false, false, false, false, false, false, false, false, false] rfl rfl (any_of HT_.out (by kernel_rfl)) (fun _ _ _ h => h) (Or.inl ⟨by rfl, ?_⟩) ?_ ?_
                              rotate_left
                              · intro w'
                                go_simp
                                with_reducible rfl
                              rotate_left
                              · simp only [Act.put, List.setIfInBounds_toArray, List.set_cons_zero, List.set_cons_succ, i64_w, i32_w]
                                rfl
                              refine pure_ (i := 13) (N := some 67) (v := ?_) (a' := ?_) #[true, true, true, true, true, true, true, true, true, true, true, true, true, true, false, false, false, false, false, false, false, false, false, false] rfl rfl (any_of HT_.out (by kernel_rfl)) (fun _ _ _ h => h) (Or.inl ⟨by rfl, ?_⟩) ?_ ?_
                              rotate_left
                              · intro w'
                                go_simp
                                with_reducible rfl
                              rotate_left
                              · simp only [Act.put, List.setIfInBounds_toArray, List.set_cons_zero, List.set_cons_succ, i64_w, i32_w]
                                rfl
                              refine pure_ (i := 14) (N := some 68) (v := ?_) (a' := ?_) #[true, true, true, true, true, true, true, true, true, true, true, true, true, true, true, false, false, false, false, false, false, false, false, false] rfl rfl (any_of HT_.out (by kernel_rfl)) (fun _ _ _ h => h) (Or.inl ⟨by rfl, ?_⟩) ?_ ?_
                              rotate_left
                              · intro w'
                                go_simp
                                with_reducible rfl
                              rotate_left
                              · simp only [Act.put, List.setIfInBounds_toArray, List.set_cons_zero, List.set_cons_succ, i64_w, i32_w]
                                rfl
                              refine pure_ (i := 16) (N := some 70) (v := ?_) (a' := ?_) #[true, true, true, true, true, true, true, true, true, true, true, true, true, true, true, false, true, false, false, false, false, false, false, false] rfl rfl (any_of HT_.out (by kernel_rfl)) (fun _ _ _ h => h) (Or.inl ⟨by rfl, ?_⟩) ?_ ?_
                              rotate_left
                              · intro w'
                                go_simp
                                with_reducible rfl
                              rotate_left
                              · simp only [Act.put, List.setIfInBounds_toArray, List.set_cons_zero, List.set_cons_succ, i64_w, i32_w]
                                rfl
                              refine pure_ (i := 17) (N := some 71) (v := ?_) (a' := ?_) #[true, true, true, true, true, true, true, true, true, true, true, true, true, true, true, false, true, true, false, false, false, false, false, false] rfl rfl (any_of HT_.out (by kernel_rfl)) (fun _ _ _ h => h) (Or.inl ⟨by rfl, ?_⟩) ?_ ?_
                              rotate_left
                              · intro w'
                                go_simp
                                with_reducible rfl
                              rotate_left
                              · simp only [Act.put, List.setIfInBounds_toArray, List.set_cons_zero, List.set_cons_succ, i64_w, i32_w]
                                rfl
                              refine pure_ (i := 18) (N := some 72) (v := ?_) (a' := ?_) #[true, true, true, true, true, true, true, true, true, true, true, true, true, true, true, false, true, true, true, false, false, false, false, false] rfl rfl (any_of HT_.out (by kernel_rfl)) (fun _ _ _ h => h) (Or.inl ⟨by rfl, ?_⟩) ?_ ?_
                              rotate_left
                              · intro w'
                                go_simp
                                with_reducible rfl
                              rotate_left
                              · simp only [Act.put, List.setIfInBounds_toArray, List.set_cons_zero, List.set_cons_succ, i64_w, i32_w]
                                rfl
                              refine take_ (i := 15) (N := some 69) (v := ?_) (a' := ?_) #[true, true, true, true, true, true, true, true, true, true, true, true, true, true, true, true, true, true, true, false, false, false, false, false] rfl rfl (take_ofW HT_.out HW_.out (by kernel_rfl)) (fun _ _ _ h => h) (Or.inl ⟨by rfl, ?_⟩) hHeld ?_ ?_
                              rotate_left
                              · rintro w' ⟨s0, s1⟩
                                go_simp
                                with_reducible rfl
                              rotate_left
                              · simp only [Act.put, List.setIfInBounds_toArray, List.set_cons_zero, List.set_cons_succ, i64_w, i32_w]
                                rfl
                              refine take_ (i := 19) (N := some 73) (v := ?_) (a' := ?_) #[true, true, true, true, true, true, true, true, true, true, true, true, true, true, true, true, true, true, true, true, false, false, false, false] rfl rfl (take_ofW HT_.out HW_.out (by kernel_rfl)) (fun _ _ _ h => h) (Or.inl ⟨by rfl, ?_⟩) hHeld ?_ ?_
                              rotate_left
                              · rintro w' ⟨s0, s1⟩
                                go_simp
                                with_reducible rfl
                              rotate_left
                              · simp only [Act.put, List.setIfInBounds_toArray, List.set_cons_zero, List.set_cons_succ, i64_w, i32_w]
                                rfl
                              refine pure_ (i := 20) (N := some 74) (v := ?_) (a' := ?_) #[true, true, true, true, true, true, true, true, true, true, true, true, true, true, true, true, true, true, true, true, true, false, false, false] rfl rfl (any_of HT_.out (by kernel_rfl)) (fun _ _ _ h => h) (Or.inl ⟨by rfl, ?_⟩) ?_ ?_
                              rotate_left
                              · intro w'
                                go_simp
                                with_reducible rfl
                              rotate_left
                              · simp only [Act.put, List.setIfInBounds_toArray, List.set_cons_zero, List.set_cons_succ, i64_w, i32_w]
                                rfl
                              refine last_ (i := 21) (N := none) #[true, true, true, true, true, true, true, true, true, true, true, true, true, true, true, true, true, true, true, true, true, true, false, false] rfl rfl (one_of HT_.out (by kernel_rfl)) (by decide) (fun K hK => ?_)
                              refine skip_ (w1 := ?_) (by rfl) rfl ?_ ?_
                              rotate_left
                              · go_simp
                                rfl
                              refine hK.out _ _ ?_
                              clear hK K
                              refine pure_ (i := 22) (N := some 75) (v := ?_) (a' := ?_) #[true, true, true, true, true, true, true, true, true, true, true, true, true, true, true, true, true, true, true, true, true, true, true, false] rfl rfl (any_of HT_.out (by kernel_rfl)) (fun _ _ _ h => h) (Or.inl ⟨by rfl, ?_⟩) ?_ ?_
                              rotate_left
                              · intro w'
                                go_simp
                                with_reducible rfl
                              rotate_left
                              · simp only [Act.put, List.setIfInBounds_toArray, List.set_cons_zero, List.set_cons_succ, i64_w, i32_w]
                                rfl
                              refine last_ (i := 23) (N := none) #[true, true, true, true, true, true, true, true, true, true, true, true, true, true, true, true, true, true, true, true, true, true, true, true] rfl rfl (one_of HT_.out (by kernel_rfl)) (by decide) (fun K hK => ?_)
                              refine skip_ (w1 := ?_) (by rfl) rfl ?_ ?_
                              rotate_left
                              · go_simp
                                rfl
                              refine hK.out _ _ ?_
                              clear hK K
                              refine done_ (done_of HT_.out (by kernel_rfl)) ?_
                              try go_wp2
                              go_roundg k3
                              case measure => have := HJ3.out; have := HK2.out; have := HK3.out; omega
                              case rel => exact ⟨(y316), (wrap64 (x9_3 + 1)), (by first | rfl | (simp; done) | (simp [*]; done)), H', ⟨by have := HJ3.out; have := HK2.out; have := HK3.out; omega⟩, ⟨by (with_reducible repeat (first | apply Kd.R_alloc | apply Kd.R_drewN | apply Kd.R_drew)); exact HQ30.out⟩, ⟨by repeat (first | (with_reducible first | exact HB.out | apply below_alloc | apply pw_below_drewN | apply below_drew1 | refine below_set ?_ GB25.out | refine below_set ?_ GB25.out) | exact HB.out)⟩⟩
                            · rw [if_neg c24] at H
                              exact absurd H (by simp)
                          · rw [if_neg c23] at H
                            exact absurd H (by simp)
                        · rw [if_neg c22] at H
                          exact absurd H (by simp)
                      · rw [if_neg c21] at H
                        exact absurd H (by simp)
                    · rw [if_neg c19] at H
                      have c19b0 : decide (x9_3 < (wrap64 ((x7_3.length : Int) / 2))) = false := decide_eq_false c19
                      clear c19
                      replace H := Option.bind_eq_some_iff.mp H
                      obtain ⟨⟨t317, t318⟩, A310, H⟩ := H
                      replace H : (if t317.toList = a0.toList then (if t318 = 0 then ((corporalaw05_awake.f k3).bind fun t319 => (some t319)) else (some false)) else (some false)) = some r := H
                      have A31 := Aside0.mk A310
                      clear A310
                      by_cases c32 : t317.toList = a0.toList
                      · rw [if_pos c32] at H
                        have c32b0 : (t317.toList == a0.toList) = true := beq_iff_eq.mpr c32
                        have c32b1 : (t317.toList != a0.toList) = false := bne_eq_false_iff_eq.mpr c32
                        clear c32
                        by_cases c33 : t318 = 0
                        · rw [if_pos c33] at H
                          have c33b0 : (t318 == 0) = true := beq_iff_eq.mpr c33
                          have c33b1 : (t318 != 0) = false := bne_eq_false_iff_eq.mpr c33
                          clear c33
                          replace H := Option.bind_eq_some_iff.mp H
                          obtain ⟨t319, A340, H⟩ := H
                          replace H : (some t319) = some r := H
                          have A34 := Aside0.mk A340
                          clear A340
                          obtain rfl := Option.some.inj H
                          obtain ⟨Ao35, co35, eo35⟩ := Kd.R_slice HO_7.out
                          subst eo35
                          go_wp2_with (first | ((with_reducible refine gate_callee (f := 16) rfl ?_); refine goesL_ (some 78) rfl rfl Try.func16 (by kernel_rfl) rfl #[.slice Ao35 x7_3.length co35] rfl (by (try simp only [List.map_toArray, List.map_cons, List.map_nil]); first | done | rfl | (simp only [List.length_drop, List.length_take]; rfl)) ?_; (with_reducible refine (feature_Format.calls k3 _ _ x7_3 t317 t318 _ ?side1 ?side2 A31.out).mono ?_); (case side1 => repeat (first | exact (Kd.R_reads' HO_7.out).2.2 | (with_reducible refine Kd.C_alloc ?_ _) | (with_reducible refine Kd.C_drewN ?_ _) | (with_reducible refine Kd.C_drew ?_))); (case side2 => exact (Kd.R_reads' HO_7.out).2.1); rintro e w36 ⟨rfl, hb⟩; refine ⟨_, rfl, ?_⟩; have n0_ := Aside0.mk (Kd.R_below (by (with_reducible repeat (first | apply Kd.R_alloc | apply Kd.R_drewN | apply Kd.R_drew)); exact HO_7.out) hb); have n1_ := Aside0.mk (below_step (by repeat (first | (with_reducible first | exact HB.out | apply below_alloc | apply pw_below_drewN | apply below_drew1) | exact HB.out)) hb); clear HO_7; clear HB; have HO_7 := n0_; have HB := n1_; clear n0_ n1_; (try clear hb); (try clear hb2); (try clear hk); (try clear hi)) | (go_at_call 15; (with_reducible refine (corporalaw05_awake.calls k3  t319 _ A34.out).mono ?_); rintro e w37 ⟨rfl, hb⟩; have n0_ := Aside0.mk (Kd.R_below (by (with_reducible repeat (first | apply Kd.R_alloc | apply Kd.R_drewN | apply Kd.R_drew)); exact HO_7.out) hb); have n1_ := Aside0.mk (below_step (by repeat (first | (with_reducible first | exact HB.out | apply below_alloc | apply pw_below_drewN | apply below_drew1) | exact HB.out)) hb); clear HO_7; clear HB; have HO_7 := n0_; have HB := n1_; clear n0_ n1_; (try clear hb); (try clear hb2); (try clear hk); (try clear hi)))
                          go_ret
                          exact ⟨by first | rfl | (simp [errW_none, errW_some] <;> rfl) | (simp [*, errW_none, errW_some] <;> rfl), by repeat (first | (with_reducible first | exact HB.out | apply below_alloc | apply pw_below_drewN | apply below_drew1) | exact HB.out)⟩
                        · rw [if_neg c33] at H
                          have c33b0 : (t318 == 0) = false := beq_eq_false_iff_ne.mpr c33
                          have c33b1 : (t318 != 0) = true := bne_iff_ne.mpr c33
                          obtain rfl := Option.some.inj H
                          obtain ⟨Ao38, co38, eo38⟩ := Kd.R_slice HO_7.out
                          subst eo38
                          go_wp2_with (first | ((with_reducible refine gate_callee (f := 16) rfl ?_); refine goesL_ (some 78) rfl rfl Try.func16 (by kernel_rfl) rfl #[.slice Ao38 x7_3.length co38] rfl (by (try simp only [List.map_toArray, List.map_cons, List.map_nil]); first | done | rfl | (simp only [List.length_drop, List.length_take]; rfl)) ?_; (with_reducible refine (feature_Format.calls k3 _ _ x7_3 t317 t318 _ ?side1 ?side2 A31.out).mono ?_); (case side1 => repeat (first | exact (Kd.R_reads' HO_7.out).2.2 | (with_reducible refine Kd.C_alloc ?_ _) | (with_reducible refine Kd.C_drewN ?_ _) | (with_reducible refine Kd.C_drew ?_))); (case side2 => exact (Kd.R_reads' HO_7.out).2.1); rintro e w39 ⟨rfl, hb⟩; refine ⟨_, rfl, ?_⟩; have n0_ := Aside0.mk (Kd.R_below (by (with_reducible repeat (first | apply Kd.R_alloc | apply Kd.R_drewN | apply Kd.R_drew)); exact HO_7.out) hb); have n1_ := Aside0.mk (below_step (by repeat (first | (with_reducible first | exact HB.out | apply below_alloc | apply pw_below_drewN | apply below_drew1) | exact HB.out)) hb); clear HO_7; clear HB; have HO_7 := n0_; have HB := n1_; clear n0_ n1_; (try clear hb); (try clear hb2); (try clear hk); (try clear hi)))
                          go_ret
                          exact ⟨by first | rfl | (simp [errW_none, errW_some] <;> rfl) | (simp [*, errW_none, errW_some] <;> rfl), by repeat (first | (with_reducible first | exact HB.out | apply below_alloc | apply pw_below_drewN | apply below_drew1) | exact HB.out)⟩
                      · rw [if_neg c32] at H
                        have c32b0 : (t317.toList == a0.toList) = false := beq_eq_false_iff_ne.mpr c32
                        have c32b1 : (t317.toList != a0.toList) = true := bne_iff_ne.mpr c32
                        obtain rfl := Option.some.inj H
                        obtain ⟨Ao40, co40, eo40⟩ := Kd.R_slice HO_7.out
                        subst eo40
                        go_wp2_with (first | ((with_reducible refine gate_callee (f := 16) rfl ?_); refine goesL_ (some 78) rfl rfl Try.func16 (by kernel_rfl) rfl #[.slice Ao40 x7_3.length co40] rfl (by (try simp only [List.map_toArray, List.map_cons, List.map_nil]); first | done | rfl | (simp only [List.length_drop, List.length_take]; rfl)) ?_; (with_reducible refine (feature_Format.calls k3 _ _ x7_3 t317 t318 _ ?side1 ?side2 A31.out).mono ?_); (case side1 => repeat (first | exact (Kd.R_reads' HO_7.out).2.2 | (with_reducible refine Kd.C_alloc ?_ _) | (with_reducible refine Kd.C_drewN ?_ _) | (with_reducible refine Kd.C_drew ?_))); (case side2 => exact (Kd.R_reads' HO_7.out).2.1); rintro e w41 ⟨rfl, hb⟩; refine ⟨_, rfl, ?_⟩; have n0_ := Aside0.mk (Kd.R_below (by (with_reducible repeat (first | apply Kd.R_alloc | apply Kd.R_drewN | apply Kd.R_drew)); exact HO_7.out) hb); have n1_ := Aside0.mk (below_step (by repeat (first | (with_reducible first | exact HB.out | apply below_alloc | apply pw_below_drewN | apply below_drew1) | exact HB.out)) hb); clear HO_7; clear HB; have HO_7 := n0_; have HB := n1_; clear n0_ n1_; (try clear hb); (try clear hb2); (try clear hk); (try clear hi)))
                        go_ret
                        exact ⟨by first | rfl | (simp [errW_none, errW_some] <;> rfl) | (simp [*, errW_none, errW_some] <;> rfl), by repeat (first | (with_reducible first | exact HB.out | apply below_alloc | apply pw_below_drewN | apply below_drew1) | exact HB.out)⟩
        · rw [if_neg c9] at H
          exact absurd H (by simp)

/-- THE ONE PURE STATEMENT of corporalaw05_FeatureRoundTrips: yours. -/
def corporalaw05_FeatureRoundTrips.Pure : Prop := ∀ (a0 : ByteArray) (a1 : Int), a0.size ≤ 140737488351232 → (Lit.int .i64 a1).wf = true → ∃ k, corporalaw05_FeatureRoundTrips.f k a0 a1 = some true
theorem corporalaw05_FeatureRoundTrips.walk (P : corporalaw05_FeatureRoundTrips.Pure) (a0 : ByteArray) (a1 : Int) (w : World) (w0 : a0.size ≤ 140737488351232) (w1 : (Lit.int .i64 a1).wf = true) :
    Calls Try.prog 5 #[.string a0, .int .i64 a1] w fun e w' => e = .returned (.bool true) ∧ Below w.heap.size w w' := by
  obtain ⟨k, h⟩ := P a0 a1 w0 w1
  refine (corporalaw05_FeatureRoundTrips.calls k a0 a1 true w h).mono ?_
  rintro e w' ⟨rfl, hd⟩
  exact ⟨rfl, hd⟩

end Go.Proofs.Ytcgglamgemgeiaa.Q
/- FSpec -/
namespace Go.Proofs.Ytcgglamgemgeiaa.Q
open Go.Lib
def bl (s : ByteArray) : List UInt8 := s.data.toList
theorem bl_inj {a b : ByteArray} (h : bl a = bl b) : a = b := by
  cases a with | mk a => cases b with | mk b => cases a with | mk a => cases b with | mk b => simp [bl] at h; rw [h]
theorem toList_bl (s : ByteArray) : s.toList = bl s := toList_data s
theorem toList_eq_iff {a b : ByteArray} : a.toList = b.toList ↔ a = b := ⟨fun h => bl_inj (by rw [← toList_bl, ← toList_bl, h]), fun h => by rw [h]⟩
theorem bl_append (a b : ByteArray) : bl (a ++ b) = bl a ++ bl b := by simp [bl]
theorem bl_length (s : ByteArray) : (bl s).length = s.size := by rw [size_eq]; rfl
/-- The order of strings. -/
def lt (a b : ByteArray) : Bool := Op.bytesLess (bl a) (bl b)
theorem lt_eq (a b : ByteArray) : Op.bytesLess a.toList b.toList = lt a b := by rw [toList_bl, toList_bl]; rfl
theorem less_leq (x y : List UInt8) : (Op.bytesLess x y || x == y) = !(Op.bytesLess y x) := leq_bytes x y
theorem less_irrefl (x : List UInt8) : Op.bytesLess x x = false := by
  have h := leq_bytes x x
  cases hh : Op.bytesLess x x with
  | false => rfl
  | true => rw [hh] at h; simp at h
theorem less_asymm {x y : List UInt8} (h : Op.bytesLess x y = true) : Op.bytesLess y x = false := by
  have h2 := leq_bytes x y
  rw [h] at h2
  cases hh : Op.bytesLess y x with
  | false => rfl
  | true => rw [hh] at h2; simp at h2
theorem less_tri {x y : List UInt8} (h : Op.bytesLess x y = false) (h' : Op.bytesLess y x = false) : x = y := by
  have h2 := leq_bytes x y
  rw [h, h'] at h2
  simpa using h2
theorem less_trans : ∀ {x y z : List UInt8}, Op.bytesLess x y = true → Op.bytesLess y z = true → Op.bytesLess x z = true
  | _, [], _, h, _ => by simp [Op.bytesLess] at h
  | _, _ :: _, [], _, h => by simp [Op.bytesLess] at h
  | [], _ :: _, _ :: _, _, _ => rfl
  | a :: x, b :: y, c :: z, h, h' => by
    simp only [Op.bytesLess, Bool.or_eq_true, Bool.and_eq_true, decide_eq_true_eq, beq_iff_eq] at h h' ⊢
    rcases h with h | ⟨rfl, h⟩ <;> rcases h' with h' | ⟨rfl, h'⟩
    · exact .inl (UInt8.lt_iff_toNat_lt.2 (by have h1 := UInt8.lt_iff_toNat_lt.1 h; have h2 := UInt8.lt_iff_toNat_lt.1 h'; omega))
    · exact .inl h
    · exact .inl h'
    · exact .inr ⟨rfl, less_trans h h'⟩
theorem lt_irrefl (a : ByteArray) : lt a a = false := less_irrefl _
theorem lt_asymm {a b : ByteArray} (h : lt a b = true) : lt b a = false := less_asymm h
theorem lt_trans {a b c : ByteArray} (h : lt a b = true) (k : lt b c = true) : lt a c = true := less_trans h k
theorem lt_tri {a b : ByteArray} (h : lt a b = false) (k : lt b a = false) : a = b := bl_inj (less_tri h k)
theorem lt_ne {a b : ByteArray} (h : lt a b = true) : a ≠ b := fun e => by subst e; rw [lt_irrefl] at h; cases h
/-- Strictly ascending. -/
abbrev SS (l : List ByteArray) : Prop := l.Pairwise (fun a b => lt a b = true)
def srt : List ByteArray → Bool
  | [] => true
  | [_] => true
  | a :: b :: l => lt a b && srt (b :: l)
theorem srt_ss : ∀ {l : List ByteArray}, srt l = true → SS l
  | [], _ => List.Pairwise.nil
  | [_], _ => List.pairwise_singleton _ _
  | a :: b :: l, h => by
    rw [srt, Bool.and_eq_true] at h
    have ih := srt_ss h.2
    refine List.Pairwise.cons (fun x hx => ?_) ih
    rcases List.mem_cons.1 hx with rfl | hx
    · exact h.1
    · exact lt_trans h.1 ((List.pairwise_cons.1 ih).1 x hx)
theorem ss_srt : ∀ {l : List ByteArray}, SS l → srt l = true
  | [], _ => rfl
  | [_], _ => rfl
  | a :: b :: l, h => by
    rw [srt, Bool.and_eq_true]
    exact ⟨(List.pairwise_cons.1 h).1 b (by simp), ss_srt (List.pairwise_cons.1 h).2⟩
theorem ss_ext : ∀ {l m : List ByteArray}, SS l → SS m → (∀ x, x ∈ l ↔ x ∈ m) → l = m
  | [], [], _, _, _ => rfl
  | [], b :: m, _, _, h => by have := (h b).2 (by simp); simp at this
  | a :: l, [], _, _, h => by have := (h a).1 (by simp); simp at this
  | a :: l, b :: m, hl, hm, h => by
    have hl' := List.pairwise_cons.1 hl
    have hm' := List.pairwise_cons.1 hm
    have e : a = b := by
      rcases List.mem_cons.1 ((h a).1 (by simp)) with e | ha
      · exact e
      · rcases List.mem_cons.1 ((h b).2 (by simp)) with e | hb
        · exact e.symm
        · have h1 := hm'.1 a ha
          have h2 := hl'.1 b hb
          rw [lt_asymm h1] at h2; cases h2
    subst e
    have : l = m := ss_ext hl'.2 hm'.2 (fun x => by
      constructor
      · intro hx
        rcases List.mem_cons.1 ((h x).1 (List.mem_cons_of_mem _ hx)) with e | hx'
        · exact absurd e.symm (lt_ne (hl'.1 x hx))
        · exact hx'
      · intro hx
        rcases List.mem_cons.1 ((h x).2 (List.mem_cons_of_mem _ hx)) with e | hx'
        · exact absurd e.symm (lt_ne (hm'.1 x hx))
        · exact hx')
    rw [this]
/-- A list with one more string, put ahead of the first that is not smaller; a string that is there already is not put in again. -/
def insB : List ByteArray → ByteArray → List ByteArray
  | [], f => [f]
  | x :: l, f => if lt x f = true then x :: insB l f else if x = f then x :: l else f :: x :: l
theorem mem_insB {l : List ByteArray} {f x : ByteArray} : x ∈ insB l f ↔ x ∈ l ∨ x = f := by
  induction l with
  | nil => simp [insB]
  | cons a l ih =>
    rw [insB]
    by_cases h1 : lt a f = true
    · rw [if_pos h1, List.mem_cons, ih, List.mem_cons, or_assoc]
    · rw [if_neg h1]
      by_cases h2 : a = f
      · rw [if_pos h2, List.mem_cons]
        subst h2
        constructor
        · exact .inl
        · rintro (h | h)
          · exact h
          · exact .inl h
      · rw [if_neg h2, List.mem_cons, List.mem_cons, or_comm]
theorem ss_insB {l : List ByteArray} {f : ByteArray} (h : SS l) : SS (insB l f) := by
  induction l with
  | nil => exact List.pairwise_singleton _ _
  | cons a l ih =>
    have h' := List.pairwise_cons.1 h
    rw [insB]
    by_cases h1 : lt a f = true
    · rw [if_pos h1]
      refine List.Pairwise.cons (fun x hx => ?_) (ih h'.2)
      rcases mem_insB.1 hx with hx | rfl
      · exact h'.1 x hx
      · exact h1
    · rw [if_neg h1]
      by_cases h2 : a = f
      · rw [if_pos h2]; exact h
      · rw [if_neg h2]
        have h3 : lt f a = true := by
          cases hh : lt f a with
          | true => rfl
          | false => exact absurd (lt_tri (by simpa using h1) hh) h2
        refine List.Pairwise.cons (fun x hx => ?_) h
        rcases List.mem_cons.1 hx with rfl | hx
        · exact h3
        · exact lt_trans h3 (h'.1 x hx)
theorem insB_length (l : List ByteArray) (f : ByteArray) : (insB l f).length ≤ l.length + 1 := by
  induction l with
  | nil => simp [insB]
  | cons a l ih =>
    rw [insB]
    split
    · simp only [List.length_cons]; omega
    · split <;> simp only [List.length_cons] <;> omega
/-- The sorted list of a list's elements. -/
def nrmF (acc : List ByteArray) (m : List ByteArray) : List ByteArray := m.foldl insB acc
def nrm (m : List ByteArray) : List ByteArray := nrmF [] m
theorem nrmF_ss : ∀ (m acc : List ByteArray), SS acc → SS (nrmF acc m)
  | [], _, h => h
  | f :: m, acc, h => nrmF_ss m (insB acc f) (ss_insB h)
theorem nrmF_mem : ∀ (m acc : List ByteArray) (x : ByteArray), x ∈ nrmF acc m ↔ x ∈ acc ∨ x ∈ m
  | [], acc, x => by simp [nrmF]
  | f :: m, acc, x => by
    show x ∈ nrmF (insB acc f) m ↔ _
    rw [nrmF_mem m, mem_insB, List.mem_cons, or_assoc]
theorem nrm_ss (m : List ByteArray) : SS (nrm m) := nrmF_ss m [] List.Pairwise.nil
theorem nrm_mem (m : List ByteArray) (x : ByteArray) : x ∈ nrm m ↔ x ∈ m := by rw [nrm, nrmF_mem]; simp
theorem nrm_of_ss {l m : List ByteArray} (h : SS l) (hm : ∀ x, x ∈ m ↔ x ∈ l) : nrm m = l := ss_ext (nrm_ss m) h (fun x => by rw [nrm_mem, hm])
theorem nrm_congr {l m : List ByteArray} (hm : ∀ x, x ∈ m ↔ x ∈ l) : nrm m = nrm l := nrm_of_ss (nrm_ss l) (fun x => by rw [hm, nrm_mem])

/-! ### texts -/
def tailT : List ByteArray → List UInt8
  | [] => []
  | f :: l => bl f ++ 124 :: tailT l
/-- The text of a list of features. -/
def text (l : List ByteArray) : ByteArray := ⟨(124 :: tailT l).toArray⟩
theorem bl_text (l : List ByteArray) : bl (text l) = 124 :: tailT l := by simp [bl, text]
/-- A feature. -/
def Feat (f : ByteArray) : Prop := vv f = 0 ∧ bl f ≠ [] ∧ (124 : UInt8) ∉ bl f
theorem vv_zero {s : ByteArray} : vv s = 0 ↔ s.size ≤ 120 ∧ validD (bl s) = true ∧ (bl s).any badB = false := by
  unfold vv bl
  by_cases h1 : 120 < s.size
  · rw [if_pos h1]; constructor
    · intro h; cases h
    · rintro ⟨h, _⟩; omega
  · rw [if_neg h1]
    cases h2 : validD s.data.toList with
    | false => simp
    | true =>
      cases h3 : s.data.toList.any badB with
      | true => simp
      | false => simp; omega
/-- The pieces between separators; none: a piece is empty. -/
def spl : List UInt8 → List UInt8 → Option (List (List UInt8))
  | [], _ => some []
  | b :: r, cur => if b = 124 then (if cur = [] then none else (spl r []).map (cur :: ·)) else spl r (cur ++ [b])
def mkB (l : List UInt8) : ByteArray := ⟨l.toArray⟩
theorem bl_mkB (l : List UInt8) : bl (mkB l) = l := by simp [bl, mkB]
theorem mkB_bl (s : ByteArray) : mkB (bl s) = s := bl_inj (bl_mkB _)
/-- What spl finds. -/
theorem spl_some : ∀ (r cur : List UInt8) (l : List (List UInt8)), (124 : UInt8) ∉ cur → (r = [] → cur = []) → (r ≠ [] → r.getLast? = some 124) → spl r cur = some l →
    cur ++ r = tailT (l.map mkB) ∧ ∀ f ∈ l, f ≠ [] ∧ (124 : UInt8) ∉ f
  | [], cur, l, _, h, _, hs => by
    rw [h rfl]
    simp only [spl] at hs
    obtain rfl := Option.some.inj hs
    exact ⟨rfl, fun f hf => by simp at hf⟩
  | b :: r, cur, l, hc, _, hl, hs => by
    rw [spl] at hs
    by_cases hb : b = 124
    · rw [if_pos hb] at hs
      by_cases hcur : cur = []
      · rw [if_pos hcur] at hs; cases hs
      · rw [if_neg hcur] at hs
        obtain ⟨l', hl', rfl⟩ := Option.map_eq_some_iff.1 hs
        have ih := spl_some r [] l' (by simp) (fun _ => rfl) (fun hr => by
          have := hl (by simp)
          rw [List.getLast?_cons_of_ne_nil hr] at this
          exact this) hl'
        subst hb
        refine ⟨?_, fun f hf => ?_⟩
        · rw [List.map_cons, tailT, bl_mkB, ← ih.1, List.nil_append]
        · rcases List.mem_cons.1 hf with rfl | hf
          · exact ⟨hcur, hc⟩
          · exact ih.2 f hf
    · rw [if_neg hb] at hs
      have hr : r ≠ [] := fun hr => by
        subst hr
        have := hl (by simp)
        simp at this
        exact hb this
      have ih := spl_some r (cur ++ [b]) l (by simp; exact ⟨hc, fun h => hb h.symm⟩) (fun h => absurd h hr) (fun hr => by
          have := hl (by simp)
          rw [List.getLast?_cons_of_ne_nil hr] at this
          exact this) hs
      refine ⟨?_, ih.2⟩
      rw [← ih.1]; simp
theorem spl_word : ∀ (f cur r : List UInt8), (124 : UInt8) ∉ f → spl (f ++ r) cur = spl r (cur ++ f)
  | [], cur, r, _ => by simp
  | b :: f, cur, r, h => by
    have hb : b ≠ 124 := fun e => h (by rw [e]; simp)
    rw [List.cons_append, spl, if_neg hb, spl_word f _ r (fun hf => h (List.mem_cons_of_mem _ hf))]
    simp
theorem spl_tail : ∀ (l : List ByteArray), (∀ f ∈ l, bl f ≠ [] ∧ (124 : UInt8) ∉ bl f) → spl (tailT l) [] = some (l.map bl)
  | [], _ => rfl
  | f :: l, h => by
    have hf := h f (by simp)
    rw [tailT, spl_word _ _ _ hf.2, List.nil_append, spl, if_pos rfl, if_neg hf.1, spl_tail l (fun g hg => h g (List.mem_cons_of_mem _ hg))]
    rfl
theorem tail_last : ∀ (l : List ByteArray), tailT l ≠ [] → (tailT l).getLast? = some 124
  | [], h => absurd rfl h
  | f :: l, _ => by
    rw [tailT]
    by_cases hl : tailT l = []
    · rw [hl]; simp
    · rw [List.getLast?_append, List.getLast?_cons_of_ne_nil hl, tail_last l hl]; rfl
/-- The answer of Parse. -/
def PR (s : ByteArray) : List ByteArray × Int :=
  if vv s ≠ 0 then ([], vv s) else if (bl s).head? ≠ some 124 ∨ (bl s).getLast? ≠ some 124 then ([], 3) else
    match spl (bl s).tail [] with
    | none => ([], 3)
    | some l => if srt (l.map mkB) = true then (l.map mkB, 0) else ([], 6)
theorem validD_tail : ∀ (l : List ByteArray), validD (tailT l) = true ↔ ∀ f ∈ l, validD (bl f) = true
  | [] => by simp [tailT, validD_nil]
  | f :: l => by
    rw [tailT, validD_cut _ 124 (by decide) _ _ (Nat.le_refl _), Bool.and_eq_true, validD_tail l]
    simp
theorem bad_tail : ∀ (l : List ByteArray), (tailT l).any badB = false ↔ ∀ f ∈ l, (bl f).any badB = false
  | [] => by simp [tailT]
  | f :: l => by
    have hb : badB 124 = false := by decide
    rw [tailT, List.any_append, List.any_cons, hb, Bool.false_or, Bool.or_eq_false_iff, bad_tail l]
    constructor
    · rintro ⟨h1, h2⟩ g hg
      rcases List.mem_cons.1 hg with rfl | hg
      · exact h1
      · exact h2 g hg
    · intro h
      exact ⟨h f (by simp), fun g hg => h g (List.mem_cons_of_mem _ hg)⟩
theorem size_text (l : List ByteArray) : (text l).size = 1 + (tailT l).length := by rw [← bl_length, bl_text, List.length_cons]; omega
theorem size_mem : ∀ (l : List ByteArray) (f : ByteArray), f ∈ l → f.size + 1 ≤ (tailT l).length
  | [], f, h => by simp at h
  | g :: l, f, h => by
    rw [tailT, List.length_append, List.length_cons, bl_length]
    rcases List.mem_cons.1 h with rfl | h
    · omega
    · have := size_mem l f h; omega
theorem len_tail : ∀ (l : List ByteArray), l.length ≤ (tailT l).length
  | [] => by simp
  | g :: l => by
    have := len_tail l
    rw [tailT, List.length_append, List.length_cons, List.length_cons]; omega
theorem validD_text (l : List ByteArray) : validD (bl (text l)) = true ↔ ∀ f ∈ l, validD (bl f) = true := by
  rw [bl_text, validD_cons 124 _ (by decide), validD_tail]
theorem bad_text (l : List ByteArray) : (bl (text l)).any badB = false ↔ ∀ f ∈ l, (bl f).any badB = false := by
  have hb : badB 124 = false := by decide
  rw [bl_text, List.any_cons, hb, Bool.false_or, bad_tail]
/-- A text of features is a value, where it is short enough. -/
theorem vv_text {l : List ByteArray} (h : ∀ f ∈ l, Feat f) (hs : (text l).size ≤ 120) : vv (text l) = 0 :=
  vv_zero.2 ⟨hs, (validD_text l).2 (fun f hf => (vv_zero.1 (h f hf).1).2.1), (bad_text l).2 (fun f hf => (vv_zero.1 (h f hf).1).2.2)⟩
/-- Where Parse finds features: the string is their text. -/
theorem PR_ok {s : ByteArray} {l : List ByteArray} (h : PR s = (l, 0)) : s = text l ∧ SS l ∧ (∀ f ∈ l, Feat f) ∧ s.size ≤ 120 := by
  unfold PR at h
  by_cases h1 : vv s ≠ 0
  · rw [if_pos h1] at h; injection h with _ h; exact absurd h h1
  · rw [if_neg h1] at h
    have h1' : vv s = 0 := by simpa using h1
    by_cases h2 : (bl s).head? ≠ some 124 ∨ (bl s).getLast? ≠ some 124
    · rw [if_pos h2] at h; injection h with _ h; cases h
    · rw [if_neg h2] at h
      have h3 : (bl s).head? = some 124 := by
        cases hh : (bl s).head? with
        | none => exact absurd (.inl (by rw [hh]; simp)) h2
        | some x => exact Classical.byContradiction (fun hx => h2 (.inl (by rw [hh]; exact hx)))
      have h4 : (bl s).getLast? = some 124 := Classical.byContradiction (fun hx => h2 (.inr hx))
      cases hb : bl s with
      | nil => rw [hb] at h3; cases h3
      | cons b r =>
        rw [hb] at h h3 h4
        simp at h3
        subst h3
        simp only [List.tail_cons] at h
        cases hsp : spl r [] with
        | none => rw [hsp] at h; simp at h
        | some m =>
          rw [hsp] at h
          simp only at h
          have key := spl_some r [] m (by simp) (fun _ => rfl) (fun hr => by rw [List.getLast?_cons_of_ne_nil hr] at h4; exact h4) hsp
          by_cases h5 : srt (m.map mkB) = true
          · rw [if_pos h5] at h
            injection h with h6 _
            subst h6
            have e : s = text (m.map mkB) := bl_inj (by rw [hb, bl_text, ← key.1]; rfl)
            have hz := vv_zero.1 h1'
            refine ⟨e, srt_ss h5, fun f hf => ?_, hz.1⟩
            have hz2 := hz
            rw [e] at hz2
            have v1 := (validD_text _).1 hz2.2.1 f hf
            have v2 := (bad_text _).1 hz2.2.2 f hf
            obtain ⟨g, hg, rfl⟩ := List.mem_map.1 hf
            have hsz := size_mem _ _ hf
            have := size_text (m.map mkB)
            refine ⟨vv_zero.2 ⟨by have := hz2.1; omega, v1, v2⟩, by rw [bl_mkB]; exact (key.2 g hg).1, by rw [bl_mkB]; exact (key.2 g hg).2⟩
          · rw [if_neg h5] at h; injection h with _ h; cases h
/-- Parse finds the features of a text again. -/
theorem PR_text {l : List ByteArray} (hs : SS l) (h : ∀ f ∈ l, Feat f) (hz : (text l).size ≤ 120) : PR (text l) = (l, 0) := by
  unfold PR
  rw [if_neg (by rw [vv_text h hz]; simp), bl_text]
  have hlast : (124 :: tailT l).getLast? = some 124 := by
    by_cases hl : tailT l = []
    · rw [hl]; rfl
    · rw [List.getLast?_cons_of_ne_nil hl]; exact tail_last l hl
  rw [if_neg (by rw [hlast]; simp)]
  have e : (l.map bl).map mkB = l := by
    rw [List.map_map]
    conv => rhs; rw [← List.map_id l]
    exact List.map_congr_left (fun x _ => mkB_bl x)
  simp only [List.tail_cons]
  rw [spl_tail l (fun f hf => ⟨(h f hf).2.1, (h f hf).2.2⟩)]
  simp only
  rw [e, if_pos (ss_srt hs)]
/-- Whether Parse finds features is told by its error alone. -/
theorem PR_eta {s : ByteArray} (h : (PR s).2 = 0) : PR s = ((PR s).1, 0) := by rw [← h]
theorem PR_err {s : ByteArray} (h : (PR s).2 ≠ 0) : (PR s).1 = [] := by
  unfold PR at h ⊢
  split
  · rfl
  · split
    · rfl
    · rename_i h1 h2
      rw [if_neg h1, if_neg h2] at h
      split
      · rfl
      · split
        · rename_i hh hs
          simp only [hh, hs, if_true] at h
          exact absurd rfl h
        · rfl
/-! ### Format -/
def fmGo : List ByteArray → List ByteArray → List ByteArray × Int
  | [], acc => (acc, 0)
  | f :: r, acc => if vv f ≠ 0 then ([], vv f) else if bl f = [] ∨ (124 : UInt8) ∈ bl f then ([], 3) else fmGo r (insB acc f)
/-- The answer of Format. -/
def FM (m : List ByteArray) : ByteArray × Int := if (fmGo m []).2 ≠ 0 then (⟨#[]⟩, (fmGo m []).2) else if 120 < (text (fmGo m []).1).size then (⟨#[]⟩, 2) else (text (fmGo m []).1, 0)
theorem fmGo_feat : ∀ (m acc : List ByteArray), (∀ f ∈ m, Feat f) → fmGo m acc = (nrmF acc m, 0)
  | [], _, _ => rfl
  | f :: m, acc, h => by
    have hf := h f (by simp)
    rw [fmGo, if_neg (by rw [hf.1]; simp), if_neg (by rintro (h1 | h1); exact hf.2.1 h1; exact hf.2.2 h1), fmGo_feat m _ (fun g hg => h g (List.mem_cons_of_mem _ hg))]
    rfl
/-- Format of features. -/
theorem FM_feat {m : List ByteArray} (h : ∀ f ∈ m, Feat f) : FM m = if 120 < (text (nrm m)).size then (⟨#[]⟩, 2) else (text (nrm m), 0) := by
  unfold FM
  rw [fmGo_feat m [] h, if_neg (by simp)]
  rfl
/-! ### the operations -/
def memb (l : List ByteArray) (f : ByteArray) : Bool := l.any (fun x => decide (x = f))
theorem memb_iff {l : List ByteArray} {f : ByteArray} : memb l f = true ↔ f ∈ l := by
  unfold memb
  rw [List.any_eq_true]
  constructor
  · rintro ⟨x, hx, h⟩
    rw [← of_decide_eq_true h]; exact hx
  · exact fun h => ⟨f, h, decide_eq_true rfl⟩
def UN (a b : ByteArray) : ByteArray × Int := if (PR a).2 ≠ 0 then (⟨#[]⟩, (PR a).2) else if (PR b).2 ≠ 0 then (⟨#[]⟩, (PR b).2) else FM ((PR a).1 ++ (PR b).1)
def IS (a b : ByteArray) : ByteArray × Int := if (PR a).2 ≠ 0 then (⟨#[]⟩, (PR a).2) else if (PR b).2 ≠ 0 then (⟨#[]⟩, (PR b).2) else (text ((PR a).1.filter (memb (PR b).1)), 0)
def SB (a b : ByteArray) : Bool × Int := if (PR a).2 ≠ 0 then (false, (PR a).2) else if (PR b).2 ≠ 0 then (false, (PR b).2) else ((PR a).1.all (memb (PR b).1), 0)
def HS (s f : ByteArray) : Bool := decide ((PR s).2 = 0) && memb (PR s).1 f
end Go.Proofs.Ytcgglamgemgeiaa.Q
/- FLaws -/
namespace Go.Proofs.Ytcgglamgemgeiaa.Q
open Go.Lib
theorem text_inj {l m : List ByteArray} (hl : ∀ f ∈ l, Feat f) (hm : ∀ f ∈ m, Feat f) (h : text l = text m) : l = m := by
  have h1 : tailT l = tailT m := by
    have := congrArg bl h
    rw [bl_text, bl_text] at this
    exact (List.cons.inj this).2
  have h2 := spl_tail l (fun f hf => ⟨(hl f hf).2.1, (hl f hf).2.2⟩)
  have h3 := spl_tail m (fun f hf => ⟨(hm f hf).2.1, (hm f hf).2.2⟩)
  rw [h1, h3] at h2
  have h4 := congrArg (List.map mkB) (Option.some.inj h2)
  have e : ∀ k : List ByteArray, (k.map bl).map mkB = k := fun k => by
    rw [List.map_map]
    conv => rhs; rw [← List.map_id k]
    exact List.map_congr_left (fun x _ => mkB_bl x)
  rw [e, e] at h4
  exact h4.symm
theorem tail_sub {l m : List ByteArray} (h : l.Sublist m) : (tailT l).length ≤ (tailT m).length := by
  induction h with
  | slnil => exact Nat.le_refl _
  | cons a h ih => simp only [tailT, List.length_append, List.length_cons]; omega
  | cons_cons a h ih => simp only [tailT, List.length_append, List.length_cons]; omega
theorem text_sub {l m : List ByteArray} (h : l.Sublist m) : (text l).size ≤ (text m).size := by
  rw [size_text, size_text]; have := tail_sub h; omega
theorem FM_congr {l m : List ByteArray} (hl : ∀ f ∈ l, Feat f) (hm : ∀ x, x ∈ m ↔ x ∈ l) : FM m = FM l := by
  rw [FM_feat hl, FM_feat (fun f hf => hl f ((hm f).1 hf)), nrm_congr hm]
theorem FM_same {s : ByteArray} {l m : List ByteArray} (h : PR s = (l, 0)) (hm : ∀ x, x ∈ m ↔ x ∈ l) : FM m = (s, 0) := by
  obtain ⟨h1, h2, h3, h4⟩ := PR_ok h
  rw [FM_feat (fun f hf => h3 f ((hm f).1 hf)), nrm_of_ss h2 hm, ← h1, if_neg (by omega)]
/-- A list of features that is what two sets' features are joined to. -/
theorem app_feat {x y : List ByteArray} (hx : ∀ f ∈ x, Feat f) (hy : ∀ f ∈ y, Feat f) : ∀ f ∈ x ++ y, Feat f := fun f hf => (List.mem_append.1 hf).elim (hx f) (hy f)
theorem UN_def {a b : ByteArray} {x y : List ByteArray} (ha : PR a = (x, 0)) (hb : PR b = (y, 0)) : UN a b = FM (x ++ y) := by
  unfold UN; rw [ha, hb]; simp
theorem IS_def {a b : ByteArray} {x y : List ByteArray} (ha : PR a = (x, 0)) (hb : PR b = (y, 0)) : IS a b = (text (x.filter (memb y)), 0) := by
  unfold IS; rw [ha, hb]; simp
theorem SB_def {a b : ByteArray} {x y : List ByteArray} (ha : PR a = (x, 0)) (hb : PR b = (y, 0)) : SB a b = (x.all (memb y), 0) := by
  unfold SB; rw [ha, hb]; simp
theorem two_ok {α : Type} {a b : ByteArray} {d : α} {r : α × Int} (h : (if (PR a).2 ≠ 0 then (d, (PR a).2) else if (PR b).2 ≠ 0 then (d, (PR b).2) else r).2 = 0) : ∃ x y, PR a = (x, 0) ∧ PR b = (y, 0) := by
  by_cases h1 : (PR a).2 = 0
  · by_cases h2 : (PR b).2 = 0
    · exact ⟨_, _, PR_eta h1, PR_eta h2⟩
    · rw [if_neg (by simp [h1]), if_pos h2] at h; exact absurd h h2
  · rw [if_pos h1] at h; exact absurd h h1
theorem filter_text {a : ByteArray} {x : List ByteArray} (ha : PR a = (x, 0)) (p : ByteArray → Bool) : PR (text (x.filter p)) = (x.filter p, 0) := by
  obtain ⟨h1, h2, h3, h4⟩ := PR_ok ha
  refine PR_text (h2.filter p) (fun f hf => h3 f (List.mem_filter.1 hf).1) ?_
  have := text_sub (List.filter_sublist (p := p) (l := x))
  rw [h1] at h4; omega
theorem UN_ok {a b : ByteArray} {x y : List ByteArray} (ha : PR a = (x, 0)) (hb : PR b = (y, 0)) (h : (UN a b).2 = 0) : (UN a b).1 = text (nrm (x ++ y)) ∧ PR (UN a b).1 = (nrm (x ++ y), 0) := by
  have hf := app_feat (PR_ok ha).2.2.1 (PR_ok hb).2.2.1
  rw [UN_def ha hb, FM_feat hf] at h ⊢
  by_cases hs : 120 < (text (nrm (x ++ y))).size
  · rw [if_pos hs] at h; cases h
  · rw [if_neg hs]
    exact ⟨rfl, PR_text (nrm_ss _) (fun f hf' => hf f ((nrm_mem _ _).1 hf')) (by omega)⟩
theorem un_assoc {a b c : ByteArray} (h1 : (UN a b).2 = 0) (h2 : (UN c b).2 = 0) : UN (UN a b).1 c = UN a (UN c b).1 := by
  obtain ⟨x, y, ha, hb⟩ := two_ok h1
  obtain ⟨z, y', hc, hb'⟩ := two_ok h2
  obtain rfl : y = y' := by rw [hb] at hb'; exact (Prod.mk.inj hb').1
  have hu := (UN_ok ha hb h1).2
  have hv := (UN_ok hc hb h2).2
  rw [UN_def hu hc, UN_def ha hv]
  refine FM_congr (app_feat (PR_ok ha).2.2.1 (fun f hf => app_feat (PR_ok hc).2.2.1 (PR_ok hb).2.2.1 f ((nrm_mem _ _).1 hf))) (fun f => ?_)
  simp only [List.mem_append, nrm_mem]
  constructor
  · rintro ((h | h) | h)
    · exact .inl h
    · exact .inr (.inr h)
    · exact .inr (.inl h)
  · rintro (h | h | h)
    · exact .inl (.inl h)
    · exact .inr h
    · exact .inl (.inr h)
theorem is_assoc {a b c : ByteArray} (h1 : (IS a b).2 = 0) (h2 : (IS c b).2 = 0) : IS (IS a b).1 c = IS a (IS c b).1 := by
  obtain ⟨x, y, ha, hb⟩ := two_ok h1
  obtain ⟨z, y', hc, hb'⟩ := two_ok h2
  obtain rfl : y = y' := by rw [hb] at hb'; exact (Prod.mk.inj hb').1
  rw [IS_def ha hb, IS_def hc hb]
  rw [IS_def (filter_text ha _) hc, IS_def ha (filter_text hc _), List.filter_filter]
  congr 2
  refine List.filter_congr (fun f _ => ?_)
  rw [Bool.eq_iff_iff]
  simp only [Bool.and_eq_true, memb_iff, List.mem_filter]
theorem HS_iff {s f : ByteArray} {l : List ByteArray} (h : PR s = (l, 0)) : HS s f = true ↔ f ∈ l := by
  unfold HS; rw [h]; simp [memb_iff]
theorem un_member {a b f : ByteArray} (h : (UN a b).2 = 0) : HS (UN a b).1 f = (HS a f || HS b f) := by
  obtain ⟨x, y, ha, hb⟩ := two_ok h
  have hu := (UN_ok ha hb h).2
  rw [Bool.eq_iff_iff, HS_iff hu, Bool.or_eq_true, HS_iff ha, HS_iff hb, nrm_mem, List.mem_append]
theorem is_member {a b f : ByteArray} (h : (IS a b).2 = 0) : HS (IS a b).1 f = (HS a f && HS b f) := by
  obtain ⟨x, y, ha, hb⟩ := two_ok h
  rw [Bool.eq_iff_iff, IS_def ha hb, HS_iff (filter_text ha _), Bool.and_eq_true, HS_iff ha, HS_iff hb, List.mem_filter, memb_iff]
theorem all_memb {x y : List ByteArray} : x.all (memb y) = true ↔ ∀ f ∈ x, f ∈ y := by
  rw [List.all_eq_true]
  exact ⟨fun h f hf => memb_iff.1 (h f hf), fun h f hf => memb_iff.2 (h f hf)⟩
theorem sb_is {a b : ByteArray} (h : (SB a b).2 = 0) : (IS a b).2 = 0 ∧ ((IS a b).1 = a ↔ (SB a b).1 = true) := by
  obtain ⟨x, y, ha, hb⟩ := two_ok h
  rw [IS_def ha hb, SB_def ha hb]
  refine ⟨rfl, ?_⟩
  rw [all_memb]
  have hx := PR_ok ha
  constructor
  · intro e f hf
    have e2 : text (x.filter (memb y)) = text x := by rw [← hx.1]; exact e
    have e3 := text_inj (fun f hf => hx.2.2.1 f (List.mem_filter.1 hf).1) hx.2.2.1 e2
    rw [← e3] at hf
    exact memb_iff.1 (List.mem_filter.1 hf).2
  · intro hall
    have : x.filter (memb y) = x := List.filter_eq_self.2 (fun f hf => memb_iff.2 (hall f hf))
    show text (x.filter (memb y)) = a
    rw [this, ← hx.1]
theorem sb_un {a b : ByteArray} (h : (SB a b).2 = 0) : ((UN a b).2 = 0 ∧ ((UN a b).1 = b ↔ (SB a b).1 = true)) ∨ ((UN a b).2 = 2 ∧ (SB a b).1 = false) := by
  obtain ⟨x, y, ha, hb⟩ := two_ok h
  have hx := PR_ok ha
  have hy := PR_ok hb
  have hf := app_feat hx.2.2.1 hy.2.2.1
  have key : (SB a b).1 = true → UN a b = (b, 0) := fun hs => by
    rw [SB_def ha hb] at hs
    rw [UN_def ha hb]
    refine FM_same hb (fun f => ?_)
    rw [List.mem_append]
    exact ⟨fun hh => hh.elim (all_memb.1 hs f) id, .inr⟩
  cases hs : (SB a b).1 with
  | true =>
    left
    rw [key hs]
    exact ⟨rfl, by simp⟩
  | false =>
    by_cases h0 : (UN a b).2 = 0
    · left
      refine ⟨h0, ?_⟩
      constructor
      · intro e
        exfalso
        have hu := UN_ok ha hb h0
        rw [e, hb] at hu
        have e2 : y = nrm (x ++ y) := (Prod.mk.inj hu.2).1
        rw [SB_def ha hb] at hs
        have : x.all (memb y) = true := all_memb.2 (fun f hf => by rw [e2, nrm_mem]; exact List.mem_append.2 (.inl hf))
        simp only at hs
        rw [this] at hs; cases hs
      · intro hh; cases hh
    · right
      refine ⟨?_, rfl⟩
      rw [UN_def ha hb, FM_feat hf] at h0 ⊢
      by_cases hz : 120 < (text (nrm (x ++ y))).size
      · rw [if_pos hz]
      · rw [if_neg hz] at h0; exact absurd rfl h0
end Go.Proofs.Ytcgglamgemgeiaa.Q
/- FFeatureContains -/
namespace Go.Proofs.Ytcgglamgemgeiaa.Q
open Go.RowKit Go.Proofs.YtcgglamgemgeiaaW.PrintWords Go.Proofs.YtcgglamgemgeiaaW.PrintLast Go.Proofs.YtcgglamgemgeiaaW.PrintMore
attribute [local go_sem] max2_int min2_int max_two min_two max_three min_three max_four min_four   -- for this text's walks alone
set_option linter.unusedVariables false
set_option linter.unusedSimpArgs false

/-! ### feature_contains: function 33 -/
def feature_contains.l0 : Nat → ByteArray → List ByteArray → Int → Int → Option (Bool)
  | 0, _, _, _, _ => none
  | k + 1, x1, x7, x8, x9 => if x9 < x8 then (if 0 ≤ x9 then (if x9 < (x7.length : Int) then (if (rdOf ByteArray.empty x7 x9).toList = x1.toList then (some true) else (feature_contains.l0 k x1 x7 x8 (wrap64 (x9 + 1)))) else (none)) else (none)) else (some false)
def feature_contains.f (k : Nat) (l0 : List ByteArray) (a1 : ByteArray) : Option (Bool) := feature_contains.l0 k a1 l0 (l0.length : Int) 0
theorem feature_contains.mono_l : ∀ k, (∀ y0 y1 y2 y3, LeO (feature_contains.l0 k y0 y1 y2 y3) (feature_contains.l0 (k + 1) y0 y1 y2 y3))
  | 0 => fun _ _ _ _ r h => by simp [feature_contains.l0] at h
  | k + 1 => by
    have ih0 := feature_contains.mono_l k
    · intro y0 y1 y2 y3
      unfold feature_contains.l0
      repeat' first
      | (with_reducible exact ih0 _ _ _ _)
      | (with_reducible exact LeO.refl _)
      | (with_reducible exact LeO.none _)
      | (with_reducible refine LeO.ite ?_ ?_)
      | (with_reducible refine LeO.bind ?_ (fun _ => ?_))
      | exact ih0 _ _ _ _
      | exact LeO.none _
      | refine LeO.ite ?_ ?_
      | refine LeO.bind ?_ (fun _ => ?_)
theorem feature_contains.mono : ∀ a0 a1 k, LeO (feature_contains.f k a0 a1) (feature_contains.f (k + 1) a0 a1) := by
  intro a0 a1 k
  have ih0 := feature_contains.mono_l k
  unfold feature_contains.f
  repeat' first
      | (with_reducible exact ih0 _ _ _ _)
      | (with_reducible exact LeO.refl _)
      | (with_reducible exact LeO.none _)
      | (with_reducible refine LeO.ite ?_ ?_)
      | (with_reducible refine LeO.bind ?_ (fun _ => ?_))
      | exact ih0 _ _ _ _
      | exact LeO.none _
      | refine LeO.ite ?_ ?_
      | refine LeO.bind ?_ (fun _ => ?_)
set_option maxHeartbeats 8000000 in
set_option maxRecDepth 100000 in
theorem feature_contains.calls (k : Nat) (A0 : Option Addr) (c0 : Nat) (l0 : List ByteArray) (a1 : ByteArray) (r : Bool) (w : World) (hr0 : Kd.C Kd.string w A0 l0.length l0) (hc0 : l0.length ≤ c0) (h : feature_contains.f k l0 a1 = some r) :
    Calls Try.prog 33 #[.slice A0 l0.length c0, .string a1] w fun e w' => e = .returned (.bool r) ∧ Drawn0 w w' := by
  have HR0 := Aside0.mk hr0
  have HC0 := Aside0.mk hc0
  clear hr0 hc0
  have H : (feature_contains.l0 k a1 l0 (l0.length : Int) 0) = some r := h
  clear h
  have H' := Aside0.mk H
  clear H
  go_enter Try.func33, Try.ntmps33
  go_wp2
  go_loopg [9] k (fun kq v9 w' => ∃ (x9_1 : Int), v9 = .int .i64 x9_1 ∧ Aside0 (feature_contains.l0 kq a1 l0 (l0.length : Int) x9_1 = some r) ∧ Aside0 (kq ≤ k) ∧ Drawn0 w w')
  case atStart => exact ⟨(0), (by first | rfl | (simp; done) | (simp [*]; done)), H', ⟨Nat.le_refl _⟩, by repeat (first | exact Drawn0.refl _ | apply Drawn0.step)⟩
  case round =>
    clear H'
    try clear p2
    obtain ⟨x9_1, rfl, HA, HK1, ⟨m1, rfl⟩⟩ := hrel
    cases gk with
    | zero => exact absurd HA.out (by simp [feature_contains.l0])
    | succ k1 =>
      have H := HA.out
      clear HA
      simp only [feature_contains.l0] at H
      by_cases c3 : x9_1 < (l0.length : Int)
      · rw [if_pos c3] at H
        have c3b0 : decide (x9_1 < (l0.length : Int)) = true := decide_eq_true c3
        clear c3
        by_cases c4 : 0 ≤ x9_1
        · rw [if_pos c4] at H
          have c4b0 : decide (0 ≤ x9_1) = true := decide_eq_true c4
          clear c4
          by_cases c5 : x9_1 < (l0.length : Int)
          · rw [if_pos c5] at H
            have c5b0 : decide (x9_1 < (l0.length : Int)) = true := decide_eq_true c5
            clear c5
            by_cases c6 : (rdOf ByteArray.empty l0 x9_1).toList = a1.toList
            · rw [if_pos c6] at H
              have c6b0 : ((rdOf ByteArray.empty l0 x9_1).toList == a1.toList) = true := beq_iff_eq.mpr c6
              have c6b1 : ((rdOf ByteArray.empty l0 x9_1).toList != a1.toList) = false := bne_eq_false_iff_eq.mpr c6
              clear c6
              obtain rfl := Option.some.inj H
              have p320 : 0 ≤ (x9_1 : Int) := of_decide_eq_true (by first | (with_reducible assumption) | assumption)
              have q320 : x9_1 < (l0.length : Int) := of_decide_eq_true (by first | (with_reducible assumption) | assumption)
              obtain ⟨ad320, e320, hx320_0⟩ := Kd.at_string HR0.out x9_1 p320 q320
              cases e320
              replace p320 := eq_true p320
              replace q320 := eq_true q320
              go_wp2
              go_ret
              exact ⟨by first | rfl | (simp; done) | (simp [*]; done), by repeat (first | exact Drawn0.refl _ | apply Drawn0.step)⟩
            · rw [if_neg c6] at H
              have c6b0 : ((rdOf ByteArray.empty l0 x9_1).toList == a1.toList) = false := beq_eq_false_iff_ne.mpr c6
              have c6b1 : ((rdOf ByteArray.empty l0 x9_1).toList != a1.toList) = true := bne_iff_ne.mpr c6
              have H' := Aside0.mk H
              clear H
              have p320 : 0 ≤ (x9_1 : Int) := of_decide_eq_true (by first | (with_reducible assumption) | assumption)
              have q320 : x9_1 < (l0.length : Int) := of_decide_eq_true (by first | (with_reducible assumption) | assumption)
              obtain ⟨ad320, e320, hx320_0⟩ := Kd.at_string HR0.out x9_1 p320 q320
              cases e320
              replace p320 := eq_true p320
              replace q320 := eq_true q320
              go_wp2
              go_roundg k1
              case measure => have := HK1.out; omega
              case rel => exact ⟨(wrap64 (x9_1 + 1)), (by first | rfl | (simp; done) | (simp [*]; done)), H', ⟨by have := HK1.out; omega⟩, by repeat (first | exact Drawn0.refl _ | apply Drawn0.step)⟩
          · rw [if_neg c5] at H
            exact absurd H (by simp)
        · rw [if_neg c4] at H
          exact absurd H (by simp)
      · rw [if_neg c3] at H
        have c3b0 : decide (x9_1 < (l0.length : Int)) = false := decide_eq_false c3
        clear c3
        obtain rfl := Option.some.inj H
        go_wp2
        go_ret
        exact ⟨by first | rfl | (simp; done) | (simp [*]; done), by repeat (first | exact Drawn0.refl _ | apply Drawn0.step)⟩

end Go.Proofs.Ytcgglamgemgeiaa.Q
/- FEv -/
namespace Go.Proofs.Ytcgglamgemgeiaa.Q
open Go.RowKit Go.Lib Go.Proofs.YtcgglamgemgeiaaW.PrintWords Go.Proofs.YtcgglamgemgeiaaW.PrintLast
theorem ev_pos {α : Type} {c : Prop} [Decidable c] {f g : Nat → Option α} {r : α} (h : c) (e : Ev f r) : Ev (fun k => if c then f k else g k) r := Ev.congr (fun _ => if_pos h) e
theorem ev_neg {α : Type} {c : Prop} [Decidable c] {f g : Nat → Option α} {r : α} (h : ¬ c) (e : Ev g r) : Ev (fun k => if c then f k else g k) r := Ev.congr (fun _ => if_neg h) e
theorem ev_some {α β : Type} {a : α} {f : Nat → α → Option β} {r : β} (e : Ev (fun k => f k a) r) : Ev (fun k => (some a).bind (f k)) r := e
theorem ev_now {α : Type} {r r' : α} (h : r = r') : Ev (fun _ => some r) r' := by subst h; exact Ev.now r
theorem ev_eq {α : Type} {f : Nat → Option α} {r r' : α} (e : Ev f r) (h : r = r') : Ev f r' := h ▸ e
theorem wrap_up (i : Nat) (h : i ≤ 4611686018427387904) : wrap64 ((i : Int) + 1) = ((i + 1 : Nat) : Int) := by
  unfold wrap64; omega
theorem wrap_dn (i : Nat) (h0 : 1 ≤ i) (h : i ≤ 4611686018427387904) : wrap64 ((i : Int) - 1) = ((i - 1 : Nat) : Int) := by
  unfold wrap64; omega
theorem rd_nat {l : List ByteArray} {i : Nat} (h : i < l.length) : rdOf ByteArray.empty l (i : Int) = l[i] := by
  unfold rdOf; rw [Int.toNat_natCast, List.getD_eq_getElem?_getD, List.getElem?_eq_getElem h]; rfl
theorem bt_nat {s : ByteArray} {i : Nat} (h : i < (bl s).length) : bt s (i : Int) = ((bl s)[i].toNat : Int) := by
  have h' : i < s.size := by rw [← bl_length]; exact h
  unfold bt
  rw [dif_pos (by rw [Int.toNat_natCast]; exact h')]
  rfl
theorem bt_124 {s : ByteArray} {i : Nat} (h : i < (bl s).length) : (bt s (i : Int) = 124) ↔ (bl s)[i] = 124 := by
  rw [bt_nat h]
  constructor
  · intro e
    exact UInt8.toNat_inj.1 (by rw [show (124 : UInt8).toNat = 124 from rfl]; omega)
  · intro e; rw [e]; rfl
theorem bl_extract (s : ByteArray) (a b : Nat) : bl (s.extract a b) = ((bl s).drop a).take (b - a) := extract_data s a b
/-! ### Parse -/
/-- Whether a list is sorted, as Parse answers. -/
def SR (l : List ByteArray) : List ByteArray × Int := if srt l = true then (l, 0) else ([], 6)
theorem srt_short {l : List ByteArray} (h : l.length ≤ 1) : srt l = true := by
  match l, h with
  | [], _ => rfl
  | [_], _ => rfl
  | _ :: _ :: _, h => simp at h
theorem parse_l1 (l : List ByteArray) (hl : l.length ≤ 1073741824) : ∀ d i : Nat, 1 ≤ i → i + d = l.length + 1 → Ev (fun k => feature_Parse.l1 k l (i : Int)) (if srt (l.drop (i - 1)) = true then (l, 0) else ([], 6)) := by
  intro d
  induction d with
  | zero =>
    intro i h1 hd
    refine Ev.step (fun k => by rw [feature_Parse.l1]) ?_
    rw [srt_short (by rw [List.length_drop]; omega), if_pos rfl]
    exact ev_neg (by omega) (Ev.now _)
  | succ d ih =>
    intro i h1 hd
    refine Ev.step (fun k => by rw [feature_Parse.l1]) ?_
    by_cases hi : i < l.length
    · refine ev_pos (by omega) ?_
      rw [wrap_dn i h1 (by omega)]
      refine ev_pos (by omega) (ev_pos (by omega) (ev_pos (by omega) ?_))
      rw [rd_nat (show i - 1 < l.length by omega), rd_nat hi, lt_eq]
      have e : l.drop (i - 1) = l[i - 1] :: l[i] :: l.drop (i + 1) := by
        rw [List.drop_eq_getElem_cons (show i - 1 < l.length by omega)]
        have : i - 1 + 1 = i := by omega
        rw [this, List.drop_eq_getElem_cons hi]
      have e2 : l.drop (i + 1 - 1) = l[i] :: l.drop (i + 1) := by rw [Nat.add_sub_cancel, List.drop_eq_getElem_cons hi]
      by_cases hlt : lt l[i - 1] l[i] = true
      · refine ev_pos hlt ?_
        rw [wrap_up i (by omega), e, srt, hlt, Bool.true_and, ← e2]
        exact ih (i + 1) (by omega) (by omega)
      · refine ev_neg hlt ?_
        rw [e, srt]
        have : lt l[i - 1] l[i] = false := by simpa using hlt
        rw [this, Bool.false_and]
        exact Ev.now _
    · obtain rfl : i = l.length := by omega
      rw [srt_short (by rw [List.length_drop]; omega), if_pos rfl]
      exact ev_neg (by omega) (Ev.now _)
/-- What is left of Parse from a place on. -/
def PL (acc : List ByteArray) (r cur : List UInt8) : List ByteArray × Int :=
  match spl r cur with
  | none => ([], 3)
  | some l => SR (acc ++ l.map mkB)
theorem parse_l0 (s : ByteArray) (hs : s.size ≤ 120) : ∀ (d i frm : Nat) (acc : List ByteArray), 1 ≤ frm → frm ≤ i → i + d = s.size → acc.length ≤ i →
    Ev (fun k => feature_Parse.l0 k s acc (frm : Int) (i : Int)) (PL acc ((bl s).drop i) (((bl s).drop frm).take (i - frm))) := by
  intro d
  induction d with
  | zero =>
    intro i frm acc h0 h1 hd ha
    refine Ev.step (fun k => by rw [feature_Parse.l0]) ?_
    refine ev_neg (by omega) ?_
    have : (bl s).drop i = [] := List.drop_eq_nil_of_le (by rw [bl_length]; omega)
    rw [this]
    have := parse_l1 acc (by omega) acc.length 1 (by omega) (by omega)
    unfold PL spl SR
    simpa using this
  | succ d ih =>
    intro i frm acc h0 h1 hd ha
    have hi : i < (bl s).length := by rw [bl_length]; omega
    refine Ev.step (fun k => by rw [feature_Parse.l0]) ?_
    refine ev_pos (by omega) (ev_pos (by omega) ?_)
    rw [List.drop_eq_getElem_cons hi]
    by_cases hb : (bl s)[i] = 124
    · refine ev_pos ((bt_124 hi).2 hb) ?_
      by_cases he : i = frm
      · refine ev_pos (by omega) ?_
        subst he
        unfold PL
        rw [Nat.sub_self, List.take_zero, spl, if_pos hb, if_pos rfl]
        exact Ev.now _
      · refine ev_neg (by omega) (ev_pos (by omega) (ev_pos (by omega) (ev_pos (by omega) (ev_pos (by omega) ?_))))
        rw [wrap_up i (by omega), Int.toNat_natCast, Int.toNat_natCast]
        refine ev_eq (ih (i + 1) (i + 1) _ (by omega) (by omega) (by omega) (by rw [List.length_append, List.length_singleton]; omega)) ?_
        unfold PL
        rw [Nat.sub_self, List.take_zero, spl, if_pos hb]
        have hne : ((bl s).drop frm).take (i - frm) ≠ [] := by
          intro h
          have := congrArg List.length h
          rw [List.length_take, List.length_drop, bl_length] at this
          simp at this; omega
        rw [if_neg hne]
        cases hsp : spl ((bl s).drop (i + 1)) [] with
        | none => rfl
        | some m =>
          have : s.extract frm i = mkB (((bl s).drop frm).take (i - frm)) := bl_inj (by rw [bl_mkB, bl_extract])
          simp [this]
    · refine ev_neg (fun h => hb ((bt_124 hi).1 h)) ?_
      rw [wrap_up i (by omega)]
      refine ev_eq (ih (i + 1) frm _ h0 (by omega) (by omega) (by omega)) ?_
      unfold PL
      rw [spl, if_neg hb]
      have : ((bl s).drop frm).take (i + 1 - frm) = ((bl s).drop frm).take (i - frm) ++ [(bl s)[i]] := by
        have e1 : i + 1 - frm = (i - frm) + 1 := by omega
        have : frm + (i - frm) = i := by omega
        rw [e1, List.take_add_one, List.getElem?_drop, this, List.getElem?_eq_getElem hi]
        rfl
      rw [this]
theorem parse_ev (s : ByteArray) : Ev (fun k => feature_Parse.f k s) (PR s) := by
  unfold feature_Parse.f markup_ValidValue.f
  refine ev_some ?_
  by_cases h0 : vv s = 0
  · refine ev_pos h0 ?_
    have hz := (vv_zero.1 h0).1
    have hpr : PR s = if (bl s).head? ≠ some 124 ∨ (bl s).getLast? ≠ some 124 then ([], 3) else PL [] (bl s).tail [] := by
      unfold PR PL SR
      rw [if_neg (by simp [h0])]
      first
        | (simp only [List.nil_append]; done)
        | (simp only [List.nil_append]; rfl)
    have three : ∀ {r : List ByteArray × Int}, r = ([], 3) → Ev (fun k => feature_Parse.j0 k s true) r := fun h => Ev.step (fun k => by rw [feature_Parse.j0]) (ev_pos rfl (ev_now h.symm))
    rw [hpr]
    rw [toList_bl]
    by_cases h1 : bl s = [124]
    · refine ev_pos h1 (ev_now ?_)
      rw [h1]; simp [PL, spl, SR, srt]
    · refine ev_neg h1 ?_
      by_cases h2 : (s.size : Int) < 2
      · refine ev_pos h2 (three ?_)
        refine if_pos (.inl ?_)
        have hl := bl_length s
        match hb : bl s with
        | [] => simp
        | [b] => rw [hb] at h1; simp at h1 ⊢; exact h1
        | _ :: _ :: _ => rw [hb] at hl; simp at hl; omega
      · refine ev_neg h2 (ev_pos (by omega) ?_)
        have hl := bl_length s
        have k0 : 0 < (bl s).length := by omega
        have k1 : s.size - 1 < (bl s).length := by omega
        have e0 : (bl s).head? = some (bl s)[0] := by rw [List.head?_eq_getElem?, List.getElem?_eq_getElem k0]
        have e1 : (bl s).getLast? = some (bl s)[s.size - 1] := by rw [List.getLast?_eq_getElem?, hl, List.getElem?_eq_getElem k1]
        rw [e0, e1, show ((s.size : Int) - 1) = ((s.size : Nat) : Int) - 1 from rfl, wrap_dn s.size (by omega) (by omega)]
        by_cases h3 : (bl s)[0] = 124
        · refine ev_pos ((bt_124 k0).2 h3) (ev_pos (by omega) (ev_pos (by omega) ?_))
          by_cases h4 : (bl s)[s.size - 1] = 124
          · have hb : (bt s ((s.size - 1 : Nat) : Int) != 124) = false := by rw [bne_eq_false_iff_eq]; exact (bt_124 k1).2 h4
            rw [hb, if_neg (by simp [h3, h4])]
            refine Ev.step (fun k => by rw [feature_Parse.j0]) (ev_neg (by simp) ?_)
            have := parse_l0 s hz (s.size - 1) 1 1 [] (by omega) (by omega) (by omega) (by simp)
            rw [Nat.sub_self, List.take_zero, List.drop_one] at this
            exact this
          · have hb : (bt s ((s.size - 1 : Nat) : Int) != 124) = true := by rw [bne_iff_ne]; exact fun h => h4 ((bt_124 k1).1 h)
            rw [hb]
            exact three (if_pos (.inr (by simp [h4])))
        · exact ev_neg (fun h => h3 ((bt_124 k0).1 h)) (three (if_pos (.inl (by simp [h3]))))
  · refine ev_neg h0 (ev_now ?_)
    unfold PR; rw [if_pos h0]
end Go.Proofs.Ytcgglamgemgeiaa.Q
/- FEv2 -/
namespace Go.Proofs.Ytcgglamgemgeiaa.Q
open Go.RowKit Go.Lib Go.Proofs.YtcgglamgemgeiaaW.PrintWords Go.Proofs.YtcgglamgemgeiaaW.PrintLast
theorem contains_loop (l : List ByteArray) (f : ByteArray) (hl : l.length ≤ 1073741824) : ∀ d i : Nat, i + d = l.length → Ev (fun k => feature_contains.l0 k f l (l.length : Int) (i : Int)) (memb (l.drop i) f) := by
  intro d
  induction d with
  | zero =>
    intro i hd
    refine Ev.step (fun k => by rw [feature_contains.l0]) ?_
    rw [List.drop_eq_nil_of_le (by omega)]
    exact ev_neg (by omega) (Ev.now _)
  | succ d ih =>
    intro i hd
    have hi : i < l.length := by omega
    refine Ev.step (fun k => by rw [feature_contains.l0]) ?_
    refine ev_pos (by omega) (ev_pos (by omega) (ev_pos (by omega) ?_))
    rw [rd_nat hi, List.drop_eq_getElem_cons hi]
    by_cases he : l[i] = f
    · refine ev_pos (toList_eq_iff.2 he) (ev_now ?_)
      unfold memb; rw [List.any_cons, decide_eq_true he, Bool.true_or]
    · refine ev_neg (fun h => he (toList_eq_iff.1 h)) ?_
      rw [wrap_up i (by omega)]
      refine ev_eq (ih (i + 1) (by omega)) ?_
      unfold memb; rw [List.any_cons, decide_eq_false he, Bool.false_or]
theorem contains_ev (l : List ByteArray) (f : ByteArray) (hl : l.length ≤ 1073741824) : Ev (fun k => feature_contains.f k l f) (memb l f) := contains_loop l f hl l.length 0 (by omega)
theorem indexByte_iff (l : List UInt8) (c : UInt8) : decide (0 ≤ Lib.indexByte l c) = decide (c ∈ l) := by
  induction l with
  | nil => simp [Lib.indexByte]
  | cons b l ih =>
    rw [Lib.indexByte]
    by_cases h : b = c
    · subst h; simp
    · have h1 : (b == c) = false := beq_eq_false_iff_ne.2 h
      rw [h1]
      have hge := Lib.indexByte_ge l c
      have hne : ¬ c = b := fun e => h e.symm
      by_cases h2 : Lib.indexByte l c = -1
      · rw [h2] at ih ⊢
        simp at ih ⊢
        exact ⟨hne, ih⟩
      · have h3 : (Lib.indexByte l c == -1) = false := beq_eq_false_iff_ne.2 h2
        rw [h3]
        have h4 : 0 ≤ Lib.indexByte l c := by omega
        rw [decide_eq_true h4] at ih
        have hm : c ∈ l := of_decide_eq_true ih.symm
        simp [hm]
        omega
theorem strings_ev (f : ByteArray) : strings_Contains.f f (⟨#[124]⟩ : ByteArray) = some (decide ((124 : UInt8) ∈ bl f)) := by
  unfold strings_Contains.f
  rw [if_pos rfl, indexByte_iff]
  rfl
/-! ### insert -/
theorem lay_get (zs : List ByteArray) : ∀ (ys : List ByteArray) (o j : Nat), o + zs.length ≤ ys.length → (lay ys o zs)[j]? = if o ≤ j ∧ j < o + zs.length then zs[j - o]? else ys[j]? := by
  induction zs with
  | nil => intro ys o j _; rw [lay, if_neg (by simp only [List.length_nil]; omega)]
  | cons z zs ih =>
    intro ys o j h
    rw [List.length_cons] at h
    rw [lay, ih _ _ _ (by rw [List.length_set]; omega), List.length_cons]
    by_cases h1 : o + 1 ≤ j ∧ j < o + 1 + zs.length
    · rw [if_pos h1, if_pos (by omega)]
      have : j - o = (j - (o + 1)) + 1 := by omega
      rw [this, List.getElem?_cons_succ]
    · rw [if_neg h1]
      by_cases h2 : j = o
      · subst h2
        rw [List.getElem?_set_self (by omega), if_pos (by omega), Nat.sub_self, List.getElem?_cons_zero]
      · rw [List.getElem?_set_ne (fun e => h2 e.symm), if_neg (by omega)]
theorem insLay_eq (l : List ByteArray) (e f : ByteArray) (i : Nat) (hi : i ≤ l.length) : (insLay (l ++ [e]) (i : Int)).set i f = l.take i ++ f :: l.drop i := by
  unfold insLay
  rw [Int.toNat_natCast]
  have hz : ((l ++ [e]).drop i).take ((l ++ [e]).length - (i + 1)) = l.drop i := by
    rw [List.drop_append_of_le_length hi, List.length_append, List.length_singleton, List.take_append_of_le_length (by rw [List.length_drop]; omega), List.take_of_length_le (by rw [List.length_drop]; omega)]
  rw [hz]
  apply List.ext_getElem?
  intro j
  have hlen : i + 1 + (l.drop i).length ≤ (l ++ [e]).length := by rw [List.length_drop, List.length_append, List.length_singleton]; omega
  by_cases h1 : j = i
  · subst h1
    rw [List.getElem?_set_self (by rw [lay_length, List.length_append, List.length_singleton]; omega), List.getElem?_append_right (by rw [List.length_take]; omega), List.length_take]
    have : j - min j l.length = 0 := by omega
    rw [this]; rfl
  · rw [List.getElem?_set_ne (fun e => h1 e.symm), lay_get _ _ _ _ hlen, List.length_drop]
    by_cases h2 : j < i
    · rw [if_neg (by omega), List.getElem?_append_left (by omega), List.getElem?_append_left (by rw [List.length_take]; omega), List.getElem?_take, if_pos h2]
    · have e0 : (l.take i ++ f :: l.drop i)[j]? = (l.drop i)[j - (i + 1)]? := by
        rw [List.getElem?_append_right (by rw [List.length_take]; omega), List.length_take]
        have e1 : j - min i l.length = (j - (i + 1)) + 1 := by omega
        rw [e1, List.getElem?_cons_succ]
      rw [e0]
      by_cases h3 : j < i + 1 + (l.length - i)
      · rw [if_pos (by omega)]
      · rw [List.getElem?_drop]
        rw [if_neg (by omega), List.getElem?_eq_none (by rw [List.length_append, List.length_singleton]; omega), List.getElem?_eq_none (by omega)]
theorem insB_at (f : ByteArray) : ∀ (l : List ByteArray) (i : Nat), i ≤ l.length → (∀ x ∈ l.take i, lt x f = true) → (∀ h : i < l.length, lt l[i] f = false) →
    insB l f = if h : i < l.length then (if l[i] = f then l else l.take i ++ f :: l.drop i) else l.take i ++ f :: l.drop i
  | [], i, hi, _, _ => by
    obtain rfl : i = 0 := by simpa using hi
    simp [insB]
  | a :: l, 0, _, _, h => by
    have h0 := h (by simp)
    simp only [List.getElem_cons_zero] at h0
    rw [insB, if_neg (by rw [h0]; simp), dif_pos (by simp)]
    simp
  | a :: l, i + 1, hi, ht, h => by
    have ha := ht a (by simp)
    have ih := insB_at f l i (by simpa using hi) (fun x hx => ht x (by simp [hx])) (fun h' => by have := h (by simpa using h'); simpa using this)
    rw [insB, if_pos ha, ih]
    by_cases h' : i < l.length
    · rw [dif_pos h', dif_pos (by simpa using h')]
      simp only [List.getElem_cons_succ]
      split <;> simp
    · rw [dif_neg h', dif_neg (by simpa using h')]
      simp
theorem insert_j2 (l : List ByteArray) (f : ByteArray) (hl : l.length ≤ 1073741824) (i : Nat) (hi : i ≤ l.length) : Ev (fun k => feature_insert.j2 k l f (i : Int) false) (l.take i ++ f :: l.drop i) := by
  refine Ev.step (fun k => by rw [feature_insert.j2]) ?_
  refine ev_neg (by simp) (ev_pos (by omega) (ev_some ?_))
  have hy : (l ++ [(⟨#[]⟩ : ByteArray)]).length = l.length + 1 := by simp
  rw [wrap_up i (by omega), hy]
  refine ev_pos (by omega) (ev_pos (by omega) (ev_pos (by omega) (ev_pos (by omega) (ev_pos (by omega) (ev_now ?_)))))
  rw [Int.toNat_natCast]
  exact insLay_eq l _ f i hi
theorem insert_loop (l : List ByteArray) (f : ByteArray) (hl : l.length ≤ 1073741824) (hs : SS l) : ∀ i : Nat, i ≤ l.length → (∀ j (h : j < l.length), i ≤ j → lt l[j] f = false) → Ev (fun k => feature_insert.l0 k l f (i : Int)) (insB l f) := by
  have fin : ∀ i : Nat, i ≤ l.length → (∀ x ∈ l.take i, lt x f = true) → (∀ h : i < l.length, lt l[i] f = false) → Ev (fun k => feature_insert.j1 k l f (i : Int) false) (insB l f) := by
    intro i hi ht hd
    rw [insB_at f l i hi ht hd]
    refine Ev.step (fun k => by rw [feature_insert.j1]) (ev_neg (by simp) ?_)
    by_cases h : i < l.length
    · refine ev_pos (by omega) (ev_pos (by omega) ?_)
      rw [dif_pos h, rd_nat h]
      by_cases he : l[i] = f
      · rw [if_pos he, he]
        refine Ev.step (fun k => by rw [feature_insert.j2]) (ev_pos (by simp) (Ev.now _))
      · rw [if_neg he]
        have : (l[i].toList == f.toList) = false := beq_eq_false_iff_ne.2 (fun h => he (toList_eq_iff.1 h))
        rw [this]
        exact insert_j2 l f hl i hi
    · rw [dif_neg h]
      exact ev_neg (by omega) (insert_j2 l f hl i hi)
  intro i
  induction i with
  | zero =>
    intro _ h
    refine Ev.step (fun k => by rw [feature_insert.l0]) (ev_neg (by omega) ?_)
    exact fin 0 (by omega) (by simp) (fun h' => h 0 h' (Nat.le_refl _))
  | succ i ih =>
    intro hi h
    have hi' : i < l.length := by omega
    refine Ev.step (fun k => by rw [feature_insert.l0]) (ev_pos (by omega) ?_)
    rw [wrap_dn (i + 1) (by omega) (by omega), Nat.add_sub_cancel]
    refine ev_pos (by omega) (ev_pos (by omega) ?_)
    rw [rd_nat hi', lt_eq]
    cases hlt : lt l[i] f with
    | false =>
      refine Ev.step (fun k => by rw [feature_insert.j1]) (ev_pos (show (!false) = true from rfl) ?_)
      rw [wrap_dn (i + 1) (by omega) (by omega), Nat.add_sub_cancel]
      refine ih (by omega) (fun j hj hij => ?_)
      rcases Nat.lt_or_ge i j with h1 | h1
      · exact h j hj h1
      · obtain rfl : j = i := by omega
        exact hlt
    | true =>
      refine fin (i + 1) hi (fun x hx => ?_) (fun h' => h (i + 1) h' (Nat.le_refl _))
      rw [List.take_add_one, List.getElem?_eq_getElem hi', List.mem_append] at hx
      rcases hx with hx | hx
      · obtain ⟨j, hj, rfl⟩ := List.mem_iff_getElem.1 hx
        rw [List.length_take] at hj
        rw [List.getElem_take]
        exact lt_trans (List.pairwise_iff_getElem.1 hs j i (by omega) hi' (by omega)) hlt
      · simp at hx; rw [hx]; exact hlt
theorem insert_ev (l : List ByteArray) (f : ByteArray) (hl : l.length ≤ 1073741824) (hs : SS l) : Ev (fun k => feature_insert.f k l f) (insB l f) :=
  insert_loop l f hl hs l.length (Nat.le_refl _) (fun j h hj => by omega)
/-! ### Format -/
theorem format_l1 (l : List ByteArray) (hl : l.length ≤ 1073741824) (hsz : ∀ g ∈ l, g.size ≤ 120) : ∀ (d i : Nat) (out : ByteArray), i + d = l.length → out.size ≤ 120 →
    Ev (fun k => feature_Format.l1 k out l (l.length : Int) (i : Int)) (if 120 < out.size + (tailT (l.drop i)).length then (⟨#[]⟩, 2) else (mkB (bl out ++ tailT (l.drop i)), 0)) := by
  intro d
  induction d with
  | zero =>
    intro i out hd ho
    refine Ev.step (fun k => by rw [feature_Format.l1]) (ev_neg (by omega) (ev_now ?_))
    rw [List.drop_eq_nil_of_le (by omega), tailT, List.append_nil, mkB_bl]
    rw [if_neg (by simp; omega)]
  | succ d ih =>
    intro i out hd ho
    have hi : i < l.length := by omega
    have hg := hsz l[i] (List.getElem_mem hi)
    refine Ev.step (fun k => by rw [feature_Format.l1]) (ev_pos (by omega) (ev_pos (by omega) (ev_pos (by omega) ?_)))
    rw [rd_nat hi]
    have s1 : (l[i] ++ (⟨#[124]⟩ : ByteArray)).size = l[i].size + 1 := by rw [ByteArray.size_append]; rfl
    have s2 : (out ++ (l[i] ++ (⟨#[124]⟩ : ByteArray))).size = out.size + (l[i].size + 1) := by rw [ByteArray.size_append, s1]
    rw [s1, s2]
    refine ev_pos (by omega) (ev_pos (by omega) ?_)
    have ht : tailT (l.drop i) = bl l[i] ++ 124 :: tailT (l.drop (i + 1)) := by rw [List.drop_eq_getElem_cons hi, tailT]
    have htl : (tailT (l.drop i)).length = l[i].size + 1 + (tailT (l.drop (i + 1))).length := by rw [ht, List.length_append, List.length_cons, bl_length]; omega
    by_cases h : ((out.size + (l[i].size + 1) : Nat) : Int) > 120
    · refine ev_pos h (ev_now ?_)
      rw [if_pos (by omega)]
    · refine ev_neg h ?_
      rw [wrap_up i (by omega)]
      refine ev_eq (ih (i + 1) _ (by omega) (by rw [s2]; omega)) ?_
      rw [s2, htl]
      have e : out.size + (l[i].size + 1) + (tailT (l.drop (i + 1))).length = out.size + (l[i].size + 1 + (tailT (l.drop (i + 1))).length) := by omega
      rw [e]
      have e2 : bl (out ++ (l[i] ++ (⟨#[124]⟩ : ByteArray))) ++ tailT (l.drop (i + 1)) = bl out ++ tailT (l.drop i) := by
        rw [bl_append, bl_append, ht]
        show bl out ++ (bl l[i] ++ [124]) ++ _ = _
        simp
      rw [e2]
/-- What is left of Format behind its first loop. -/
def FMof (r : List ByteArray × Int) : ByteArray × Int := if r.2 ≠ 0 then (⟨#[]⟩, r.2) else if 120 < (text r.1).size then (⟨#[]⟩, 2) else (text r.1, 0)
theorem insB_small {acc : List ByteArray} {f : ByteArray} (h : ∀ g ∈ acc, g.size ≤ 120) (hf : f.size ≤ 120) : ∀ g ∈ insB acc f, g.size ≤ 120 := fun g hg => (mem_insB.1 hg).elim (h g) (fun e => e ▸ hf)
theorem format_l0 (m : List ByteArray) (hm : m.length ≤ 1073741824) : ∀ (d i : Nat) (acc : List ByteArray), i + d = m.length → SS acc → acc.length ≤ i → (∀ g ∈ acc, g.size ≤ 120) →
    Ev (fun k => feature_Format.l0 k acc m (m.length : Int) (i : Int)) (FMof (fmGo (m.drop i) acc)) := by
  intro d
  induction d with
  | zero =>
    intro i acc hd hs ha hz
    refine Ev.step (fun k => by rw [feature_Format.l0]) (ev_neg (by omega) ?_)
    rw [List.drop_eq_nil_of_le (by omega), fmGo]
    refine ev_eq (format_l1 acc (by omega) hz acc.length 0 (⟨#[124]⟩ : ByteArray) (by omega) (by decide)) ?_
    unfold FMof
    simp only [ne_eq, not_true_eq_false, if_false]
    rw [size_text]
    rfl
  | succ d ih =>
    intro i acc hd hs ha hz
    have hi : i < m.length := by omega
    refine Ev.step (fun k => by rw [feature_Format.l0]) (ev_pos (by omega) (ev_pos (by omega) (ev_pos (by omega) ?_)))
    rw [rd_nat hi, List.drop_eq_getElem_cons hi, fmGo]
    unfold markup_ValidValue.f
    refine ev_some ?_
    by_cases h0 : vv m[i] = 0
    · refine ev_pos h0 ?_
      rw [if_neg (by simp [h0]), toList_bl]
      by_cases h1 : bl m[i] = []
      · refine ev_pos h1 (ev_now ?_)
        rw [if_pos (.inl h1)]; rfl
      · refine ev_neg h1 ?_
        rw [strings_ev]
        refine ev_some ?_
        by_cases h2 : (124 : UInt8) ∈ bl m[i]
        · refine ev_pos (by simp [h2]) (ev_now ?_)
          rw [if_pos (.inr h2)]; rfl
        · refine ev_neg (by simp [h2]) ?_
          rw [if_neg (by simp [h1, h2])]
          refine Ev.bind (insert_ev acc m[i] (by omega) hs) ?_
          rw [wrap_up i (by omega)]
          exact ih (i + 1) _ (by omega) (ss_insB hs) (by have := insB_length acc m[i]; omega) (insB_small hz (vv_zero.1 h0).1)
    · refine ev_neg h0 (ev_now ?_)
      rw [if_pos h0]
      unfold FMof
      rw [if_pos h0]
theorem format_ev (m : List ByteArray) (hm : m.length ≤ 1073741824) : Ev (fun k => feature_Format.f k m) (FM m) :=
  format_l0 m hm m.length 0 [] (by omega) List.Pairwise.nil (by simp) (by simp)
end Go.Proofs.Ytcgglamgemgeiaa.Q
/- FFeatureIntersect -/
namespace Go.Proofs.Ytcgglamgemgeiaa.Q
open Go.RowKit Go.Proofs.YtcgglamgemgeiaaW.PrintWords Go.Proofs.YtcgglamgemgeiaaW.PrintLast Go.Proofs.YtcgglamgemgeiaaW.PrintMore
attribute [local go_sem] max2_int min2_int max_two min_two max_three min_three max_four min_four   -- for this text's walks alone
set_option linter.unusedVariables false
set_option linter.unusedSimpArgs false

/-! ### feature_Intersect: function 21 -/
def feature_Intersect.l0 : Nat → List (List ByteArray) → List ByteArray → List ByteArray → Int → Int → Option (ByteArray × Int)
  | 0, _, _, _, _, _ => none
  | k + 1, x6, x8, x23, x24, x25 => if x25 < x24 then (if 0 ≤ x25 then (if x25 < (x23.length : Int) then (if 1 < (x6.length : Int) then ((feature_contains.f k (rd_L1 x6 1) (rdOf ByteArray.empty x23 x25)).bind fun t349 => (if t349 = true then (if x8.length < 8796093022208 then (feature_Intersect.l0 k x6 (x8 ++ [rdOf ByteArray.empty x23 x25]) x23 x24 (wrap64 (x25 + 1))) else (none)) else (feature_Intersect.l0 k x6 x8 x23 x24 (wrap64 (x25 + 1))))) else (none)) else (none)) else (none)) else ((feature_Format.f k x8).bind fun bt353 => (some (bt353.1, bt353.2)))
def feature_Intersect.f (k : Nat) (a0 : ByteArray) (a1 : ByteArray) : Option (ByteArray × Int) := (feature_parseAll.f k (([a0, a1] : List ByteArray))).bind fun bt342 => (if bt342.2 = 0 then (if 0 < (bt342.1.length : Int) then (feature_Intersect.l0 k bt342.1 ([] : List ByteArray) (rd_L1 bt342.1 0) ((rd_L1 bt342.1 0).length : Int) 0) else (none)) else (some ((⟨#[]⟩ : ByteArray), bt342.2)))
theorem feature_Intersect.mono_l : ∀ k, (∀ y0 y1 y2 y3 y4, LeO (feature_Intersect.l0 k y0 y1 y2 y3 y4) (feature_Intersect.l0 (k + 1) y0 y1 y2 y3 y4))
  | 0 => fun _ _ _ _ _ r h => by simp [feature_Intersect.l0] at h
  | k + 1 => by
    have ih0 := feature_Intersect.mono_l k
    · intro y0 y1 y2 y3 y4
      unfold feature_Intersect.l0
      repeat' first
      | (with_reducible exact ih0 _ _ _ _ _)
      | (with_reducible exact feature_Format.mono _ _)
      | (with_reducible exact feature_contains.mono _ _ _)
      | (with_reducible exact feature_parseAll.mono _ _)
      | (with_reducible exact LeO.refl _)
      | (with_reducible exact LeO.none _)
      | (with_reducible refine LeO.ite ?_ ?_)
      | (with_reducible refine LeO.bind ?_ (fun _ => ?_))
      | exact ih0 _ _ _ _ _
      | exact feature_Format.mono _ _
      | exact feature_contains.mono _ _ _
      | exact feature_parseAll.mono _ _
      | exact LeO.none _
      | refine LeO.ite ?_ ?_
      | refine LeO.bind ?_ (fun _ => ?_)
theorem feature_Intersect.mono : ∀ a0 a1 k, LeO (feature_Intersect.f k a0 a1) (feature_Intersect.f (k + 1) a0 a1) := by
  intro a0 a1 k
  have ih0 := feature_Intersect.mono_l k
  unfold feature_Intersect.f
  repeat' first
      | (with_reducible exact ih0 _ _ _ _ _)
      | (with_reducible exact feature_Format.mono _ _)
      | (with_reducible exact feature_contains.mono _ _ _)
      | (with_reducible exact feature_parseAll.mono _ _)
      | (with_reducible exact LeO.refl _)
      | (with_reducible exact LeO.none _)
      | (with_reducible refine LeO.ite ?_ ?_)
      | (with_reducible refine LeO.bind ?_ (fun _ => ?_))
      | exact ih0 _ _ _ _ _
      | exact feature_Format.mono _ _
      | exact feature_contains.mono _ _ _
      | exact feature_parseAll.mono _ _
      | exact LeO.none _
      | refine LeO.ite ?_ ?_
      | refine LeO.bind ?_ (fun _ => ?_)
set_option maxHeartbeats 8000000 in
set_option maxRecDepth 100000 in
theorem feature_Intersect.calls (k : Nat) (a0 : ByteArray) (a1 : ByteArray) (r1 : ByteArray) (r2 : Int) (w : World) (h : feature_Intersect.f k a0 a1 = some (r1, r2)) :
    Calls Try.prog 21 #[.string a0, .string a1] w fun e w' => e = .returned (.tuple #[.string r1, .int .i64 r2]) ∧ Below w.heap.size w w' := by
  have HB := Aside0.mk (Below.refl w.heap.size w)
  have H : ((feature_parseAll.f k (([a0, a1] : List ByteArray))).bind fun bt342 => (if bt342.2 = 0 then (if 0 < (bt342.1.length : Int) then (feature_Intersect.l0 k bt342.1 ([] : List ByteArray) (rd_L1 bt342.1 0) ((rd_L1 bt342.1 0).length : Int) 0) else (none)) else (some ((⟨#[]⟩ : ByteArray), bt342.2)))) = some (r1, r2) := h
  clear h
  obtain ⟨y339, hy339⟩ : ∃ y_ : List ByteArray, y_ = (([a0, a1] : List ByteArray)) := ⟨_, rfl⟩
  replace H : ((feature_parseAll.f k y339).bind fun bt342 => (if bt342.2 = 0 then (if 0 < (bt342.1.length : Int) then (feature_Intersect.l0 k bt342.1 ([] : List ByteArray) (rd_L1 bt342.1 0) ((rd_L1 bt342.1 0).length : Int) 0) else (none)) else (some ((⟨#[]⟩ : ByteArray), bt342.2)))) = some (r1, r2) := by first | (rw [hy339]; with_reducible exact H) | (have H2_ := (Option.bind_some _ _).symm.trans H; rw [hy339]; with_reducible exact H2_) | (have H2_ := (Option.bind_some _ _).symm.trans H; with_reducible exact H2_) | with_reducible exact H | (rw [hy339]; exact H) | exact H
  have Ny339 := Aside0.mk hy339
  clear hy339
  replace H := Option.bind_eq_some_iff.mp H
  obtain ⟨⟨t342, t343⟩, A30, H⟩ := H
  replace H : (if t343 = 0 then (if 0 < (t342.length : Int) then (feature_Intersect.l0 k t342 ([] : List ByteArray) (rd_L1 t342 0) ((rd_L1 t342 0).length : Int) 0) else (none)) else (some ((⟨#[]⟩ : ByteArray), t343))) = some (r1, r2) := H
  have A3 := Aside0.mk A30
  clear A30
  by_cases c4 : t343 = 0
  · rw [if_pos c4] at H
    have c4b0 : (t343 == 0) = true := beq_iff_eq.mpr c4
    have c4b1 : (t343 != 0) = false := bne_eq_false_iff_eq.mpr c4
    clear c4
    by_cases c5 : 0 < (t342.length : Int)
    · rw [if_pos c5] at H
      have c5b0 : decide (0 < (t342.length : Int)) = true := decide_eq_true c5
      have c5b1 : decide (0 < t342.length) = true := decide_eq_true (by omega)
      clear c5
      have H' := Aside0.mk H
      clear H
      go_enter Try.func21, Try.ntmps21
      go_wp2_with (first | ((with_reducible refine gate_dst (N := 14) rfl ?_); refine Kd.R_lit Kd.string _ 9 ?hg (N := 14) ?hd (xs := ([a0, a1] : List ByteArray)) (inner := [.string a0, .string a1]) (ok := fun _ => True) (okp := fun _ => True) ?hr ?hp (fun _ hk => hk) trivial (Below.refl _ _) (Nat.le_refl _) (by simp) ?_; (case hd => rfl); (case hg => rfl); (case hr => first | (go_simp; done) | (go_simp; rfl)); (case hp => exact (Reps.one (show Kd.M Kd.string _ _ _ a0 [.string a0] from rfl) (Reps.one (show Kd.M Kd.string _ _ _ a1 [.string a1] from rfl) (Reps.none _ _)))); intro v340 w6 ho7 hb hg_ hnew_; clear hg_ hnew_; (first | rw [← Ny339.out] at ho7 | (simp only [Int.reduceToNat] at ho7; rw [← Ny339.out] at ho7)); have n0_ := Aside0.mk (Kd.R_lower ho7 (below_size (by repeat (first | (with_reducible first | exact HB.out | apply below_alloc | apply pw_below_drewN | apply below_drew1) | exact HB.out)))); have n1_ := Aside0.mk (below_step (by repeat (first | (with_reducible first | exact HB.out | apply below_alloc | apply pw_below_drewN | apply below_drew1) | exact HB.out)) hb); clear HB; have HO341 := n0_; have HB := n1_; clear n0_ n1_; clear hb ho7; obtain ⟨Ao8, co8, eo8⟩ := Kd.R_slice HO341.out; subst eo8) | ((with_reducible refine gate_callee (f := 35) rfl ?_); refine goesL_ (some 15) rfl rfl Try.func35 (by kernel_rfl) rfl #[.slice Ao8 y339.length co8] rfl (by (try simp only [List.map_toArray, List.map_cons, List.map_nil]); first | done | rfl | (simp only [List.length_drop, List.length_take]; rfl)) ?_; (with_reducible refine (feature_parseAll.calls k _ _ y339 t342 t343 _ ?side1 ?side2 A3.out).mono ?_); (case side1 => repeat (first | exact (Kd.R_reads' HO341.out).2.2 | (with_reducible refine Kd.C_alloc ?_ _) | (with_reducible refine Kd.C_drewN ?_ _) | (with_reducible refine Kd.C_drew ?_))); (case side2 => exact (Kd.R_reads' HO341.out).2.1); rintro e w9 ⟨v344, rfl, ho0, hb⟩; refine ⟨_, rfl, ?_⟩; have n0_ := Aside0.mk (Kd.R_below (by (with_reducible repeat (first | apply Kd.R_alloc | apply Kd.R_drewN | apply Kd.R_drew)); exact HO341.out) hb); have n1_ := Aside0.mk (Kd.S_lower (Kd.S_new' ho0 (Kd.R_lt (by (with_reducible repeat (first | apply Kd.R_alloc | apply Kd.R_drewN | apply Kd.R_drew)); exact HO341.out))) (below_size (by repeat (first | (with_reducible first | exact HB.out | apply below_alloc | apply pw_below_drewN | apply below_drew1) | exact HB.out)))); have n2_ := Aside0.mk (below_step (by repeat (first | (with_reducible first | exact HB.out | apply below_alloc | apply pw_below_drewN | apply below_drew1) | exact HB.out)) hb); clear HO341; clear HB; have HO341 := n0_; have HO345 := n1_; have HB := n2_; clear n0_ n1_ n2_; (try clear hb); (try clear hb2); (try clear hk); (try clear hi); (try clear ho0); obtain ⟨Ao10, co10, eo10⟩ := Kd.S_slice HO345.out; subst eo10; have p346 : 0 ≤ (0 : Int) := (by omega); have q346 : 0 < (t342.length : Int) := of_decide_eq_true (by first | (with_reducible assumption) | assumption); obtain ⟨ad346, A346_0, c346_0, e346, hx346_0, hl346_0, hi346_0⟩ := at_L1 (Kd.S_reads' HO345.out).2.2 0 p346 q346; cases e346; obtain ⟨ce346, hce346, hMe346, hcc346⟩ := Kd.S_get HO345.out [] 0 p346 (by first | exact q346 | exact of_decide_eq_true (by first | (with_reducible assumption) | assumption) | (have e_ := (Kd.S_reads' HO345.out).1; omega)); obtain ⟨ve346_0, rfl, ge346_0⟩ := hMe346; have hv346_0 := hcc346 0 _ rfl; rw [Nat.add_zero, show ((Kd.slice 9 Kd.string)).sz = 1 from rfl, Nat.mul_one] at hv346_0; replace hv346_0 := Option.some.inj (hv346_0.symm.trans hx346_0); rw [hv346_0] at ge346_0; have HL346_0 := Aside0.mk (show Kd.R Kd.string 9 _ _ _ _ (rd_L1 t342 0) from ge346_0); clear hv346_0 ge346_0; clear hcc346 hce346; have qi346 : (0 < t342.length) = True := eq_true (by omega); (try rw [show ((0 : Int)).toNat = 0 from rfl] at hx346_0); (try rw [Addr.add_zero'] at hx346_0); have HR346_0 := Aside0.mk hi346_0; have HC346_0 := Aside0.mk hl346_0; clear hi346_0 hl346_0; replace p346 := eq_true p346; replace q346 := eq_true q346))
      have HB0_ := HB
      go_loopg [8, 25] k (fun kq v8 v25 w' => ∃ (x8_1 : List ByteArray) (x25_1 : Int), v25 = .int .i64 x25_1 ∧ Aside0 (feature_Intersect.l0 kq t342 x8_1 (rd_L1 t342 0) ((rd_L1 t342 0).length : Int) x25_1 = some (r1, r2)) ∧ Aside0 (kq ≤ k) ∧ Aside0 (Kd.S (Kd.slice 9 Kd.string) 23 w' w.heap.size (fun k_ => some k_ ≠ (v8 : Value).ownBlock) (.slice (some ad346) t342.length co10) t342) ∧ Aside0 (Kd.R Kd.string 9 w' w9.heap.size (fun _ => True) v8 x8_1) ∧ Aside0 (Below w9.heap.size w9 w'))
      case atStart => exact ⟨(([] : List ByteArray)), (0), (by first | rfl | (simp; done) | (simp [*]; done)), H', ⟨Nat.le_refl _⟩, ⟨by (with_reducible repeat (first | apply Kd.S_alloc | apply Kd.S_drewN | apply Kd.S_drew)); exact Kd.S_mono HO345.out (fun _ hk => (by simp [Value.ownBlock]))⟩, ⟨by first | exact Kd.R_nil _ _ _ _ _ | exact Kd.N_nil _ _ _ _ _ | exact Kd.V_nil _ _ _ _ _ | exact Kd.Q_nil _ _ _ _ _ | exact Kd.S_nil _ _ _ _ _⟩, ⟨Below.refl _ _⟩⟩
      case round =>
        clear H'
        try clear c2
        try clear p2
        try clear c3
        try clear p3
        try clear q3
        try clear hx3
        try clear qi3
        try clear c4
        try clear c4b0
        try clear c4b1
        try clear c5
        try clear c5b0
        try clear c5b1
        try clear hx346_0
        try clear p346
        try clear q346
        obtain ⟨x8_1, x25_1, rfl, HA, HK1, HO_6, HO_8, HB⟩ := hrel
        cases gk with
        | zero => exact absurd HA.out (by simp [feature_Intersect.l0])
        | succ k1 =>
          have H := HA.out
          clear HA
          simp only [feature_Intersect.l0] at H
          by_cases c11 : x25_1 < ((rd_L1 t342 0).length : Int)
          · rw [if_pos c11] at H
            have c11b0 : decide (x25_1 < ((rd_L1 t342 0).length : Int)) = true := decide_eq_true c11
            clear c11
            by_cases c12 : 0 ≤ x25_1
            · rw [if_pos c12] at H
              have c12b0 : decide (0 ≤ x25_1) = true := decide_eq_true c12
              clear c12
              by_cases c13 : x25_1 < ((rd_L1 t342 0).length : Int)
              · rw [if_pos c13] at H
                have c13b0 : decide (x25_1 < ((rd_L1 t342 0).length : Int)) = true := decide_eq_true c13
                clear c13
                by_cases c14 : 1 < (t342.length : Int)
                · rw [if_pos c14] at H
                  have c14b0 : decide (1 < (t342.length : Int)) = true := decide_eq_true c14
                  have c14b1 : decide (1 < t342.length) = true := decide_eq_true (by omega)
                  clear c14
                  replace H := Option.bind_eq_some_iff.mp H
                  obtain ⟨t349, A150, H⟩ := H
                  replace H : (if t349 = true then (if x8_1.length < 8796093022208 then (feature_Intersect.l0 k1 t342 (x8_1 ++ [rdOf ByteArray.empty (rd_L1 t342 0) x25_1]) (rd_L1 t342 0) ((rd_L1 t342 0).length : Int) (wrap64 (x25_1 + 1))) else (none)) else (feature_Intersect.l0 k1 t342 x8_1 (rd_L1 t342 0) ((rd_L1 t342 0).length : Int) (wrap64 (x25_1 + 1)))) = some (r1, r2) := H
                  have A15 := Aside0.mk A150
                  clear A150
                  by_cases c16 : t349 = true
                  · subst c16
                    have H1 : (if x8_1.length < 8796093022208 then (feature_Intersect.l0 k1 t342 (x8_1 ++ [rdOf ByteArray.empty (rd_L1 t342 0) x25_1]) (rd_L1 t342 0) ((rd_L1 t342 0).length : Int) (wrap64 (x25_1 + 1))) else (none)) = some (r1, r2) := by rw [if_pos rfl] at H; exact H
                    clear H
                    have H := H1
                    clear H1
                    by_cases c17 : x8_1.length < 8796093022208
                    · rw [if_pos c17] at H
                      have LMc17 := Aside0.mk c17
                      clear c17
                      obtain ⟨y350, hy350⟩ : ∃ y_ : List ByteArray, y_ = (x8_1 ++ [rdOf ByteArray.empty (rd_L1 t342 0) x25_1]) := ⟨_, rfl⟩
                      replace H : (feature_Intersect.l0 k1 t342 y350 (rd_L1 t342 0) ((rd_L1 t342 0).length : Int) (wrap64 (x25_1 + 1))) = some (r1, r2) := by first | (rw [hy350]; with_reducible exact H) | (have H2_ := (Option.bind_some _ _).symm.trans H; rw [hy350]; with_reducible exact H2_) | (have H2_ := (Option.bind_some _ _).symm.trans H; with_reducible exact H2_) | with_reducible exact H | (rw [hy350]; exact H) | exact H
                      have Ny350 := Aside0.mk hy350
                      clear hy350
                      have H' := Aside0.mk H
                      clear H
                      have p347 : 0 ≤ (x25_1 : Int) := of_decide_eq_true (by first | (with_reducible assumption) | assumption)
                      have q347 : x25_1 < ((rd_L1 t342 0).length : Int) := of_decide_eq_true (by first | (with_reducible assumption) | assumption)
                      obtain ⟨ad347, e347, hx347_0⟩ := Kd.at_string HR346_0.out x25_1 p347 q347
                      cases e347
                      replace hx347_0 := (HB.out.cell (World.block_lt_of_cell? w9 _ hx347_0)).trans hx347_0
                      replace p347 := eq_true p347
                      replace q347 := eq_true q347
                      have p348 : 0 ≤ (1 : Int) := (by omega)
                      have q348 : 1 < (t342.length : Int) := of_decide_eq_true (by first | (with_reducible assumption) | assumption)
                      obtain ⟨ad348, A348_0, c348_0, e348, hx348_0, hl348_0, hi348_0⟩ := at_L1 (Kd.S_reads' HO_6.out).2.2 1 p348 q348
                      obtain rfl : ad346 = ad348 := (by injection e348)
                      obtain ⟨ce348, hce348, hMe348, hcc348⟩ := Kd.S_get HO_6.out [] 1 p348 (by first | exact q348 | exact of_decide_eq_true (by first | (with_reducible assumption) | assumption) | (have e_ := (Kd.S_reads' HO_6.out).1; omega))
                      obtain ⟨ve348_0, rfl, ge348_0⟩ := hMe348
                      have hv348_0 := hcc348 0 _ rfl
                      rw [Nat.add_zero, show ((Kd.slice 9 Kd.string)).sz = 1 from rfl, Nat.mul_one] at hv348_0
                      replace hv348_0 := Option.some.inj (hv348_0.symm.trans hx348_0)
                      rw [hv348_0] at ge348_0
                      have HL348_0 := Aside0.mk (show Kd.R Kd.string 9 _ _ _ _ (rd_L1 t342 1) from ge348_0)
                      clear hv348_0 ge348_0
                      clear hcc348 hce348
                      (try simp only [show (1 : Int).toNat = 1 from rfl, Nat.reduceMul, Nat.reduceEqDiff, Go.Addr.add, ↓reduceIte] at hx348_0)
                      have qi348 : (1 < t342.length) = True := eq_true (by omega)
                      (try rw [show ((1 : Int)).toNat = 1 from rfl] at hx348_0)
                      have HR348_0 := Aside0.mk hi348_0
                      have HC348_0 := Aside0.mk hl348_0
                      clear hi348_0 hl348_0
                      replace p348 := eq_true p348
                      replace q348 := eq_true q348
                      go_wp2_with (first | ((with_reducible refine gate_callee (f := 33) rfl ?_); refine goesL_ (some 33) rfl rfl Try.func33 (by kernel_rfl) rfl #[.slice A348_0 (rd_L1 t342 1).length c348_0, .string (rdOf ByteArray.empty (rd_L1 t342 0) x25_1)] rfl (by (try simp only [List.map_toArray, List.map_cons, List.map_nil]); first | done | rfl | (simp only [List.length_drop, List.length_take]; rfl)) ?_; (with_reducible refine (feature_contains.calls k1 _ _ (rd_L1 t342 1) (rdOf ByteArray.empty (rd_L1 t342 0) x25_1) true _ ?side1 ?side2 A15.out).mono ?_); (case side1 => repeat (first | exact (by repeat (first | (with_reducible exact HR348_0.out) | (with_reducible refine Kd.C_alloc ?_ _) | (with_reducible refine Kd.C_drewN ?_ _) | (with_reducible refine Kd.C_drew ?_) | exact HR348_0.out)) | (with_reducible refine Kd.C_alloc ?_ _) | (with_reducible refine Kd.C_drewN ?_ _) | (with_reducible refine Kd.C_drew ?_))); (case side2 => exact HC348_0.out); rintro e w' ⟨rfl, ⟨nd, rfl⟩⟩; refine ⟨_, rfl, ?_⟩) | ((with_reducible refine gate_builtin (b := .append) (xs := #[.tmp 34, .tmp 36]) rfl ?_); at_builtin; refine Kd.R_append Kd.string (w0 := w9) w9.heap.size rfl (.tmp 34) (.tmp 36) 23 9 (.string ⟨#[]⟩) 16 rfl Try.underlying23 info9 rfl (by decide) (by omega) u8 x8_1 (rdOf ByteArray.empty (rd_L1 t342 0) x25_1) [.string (rdOf ByteArray.empty (rd_L1 t342 0) x25_1)] (fun _ => True) (fun _ => False) rfl rfl ?aP (fun _ hk => hk.elim) ?aF ?aO ?aB ?aS ?aL ?_; (case aP => exact rfl); (case aB => exact (by repeat (first | (with_reducible first | exact HB.out | apply below_alloc | apply pw_below_drewN | apply below_drew1) | exact HB.out))); (case aF => exact (fun _ _ => trivial)); (case aO => exact (by (with_reducible repeat (first | apply Kd.R_alloc | apply Kd.R_drewN | apply Kd.R_drew)); exact HO_8.out)); (case aS => exact (below_size (by repeat (first | (with_reducible first | exact HB.out | apply below_alloc | apply pw_below_drewN | apply below_drew1) | exact HB.out)))); (case aL => have := LMc17.out; omega); intro v351 w18 ho hb hg hat; rw [← Ny350.out] at ho; have n0_ := Aside0.mk (Kd.S_after (ok := (fun _ => True)) (by (with_reducible repeat (first | apply Kd.S_alloc | apply Kd.S_drewN | apply Kd.S_drew)); exact Kd.S_mono HO_6.out (fun _ hk => ⟨trivial, hk⟩)) hg hat); have n1_ := Aside0.mk (Kd.R_after (ok := (fun k_ => some k_ ≠ (.slice (some ad346) t342.length co10 : Value).ownBlock)) (by (with_reducible repeat (first | apply Kd.R_alloc | apply Kd.R_drewN | apply Kd.R_drew)); exact Kd.R_mono HL348_0.out (fun _ hk => ⟨hk.2, hk.1⟩)) hg hat); have n2_ := Aside0.mk (hb); have n3_ := Aside0.mk (ho); clear HO_6; clear HL348_0; clear HB; clear HO_8; have HO_6 := n0_; have HL348_0 := n1_; have HB := n2_; have HO352 := n3_; clear n0_ n1_ n2_ n3_; clear ho hb hg hat))
                      go_roundg k1
                      case measure => have := HK1.out; omega
                      case rel => exact ⟨(y350), (wrap64 (x25_1 + 1)), (by first | rfl | (simp; done) | (simp [*]; done)), H', ⟨by have := HK1.out; omega⟩, ⟨by (with_reducible repeat (first | apply Kd.S_alloc | apply Kd.S_drewN | apply Kd.S_drew)); exact Kd.S_mono HO_6.out (fun _ hk => hk.2)⟩, ⟨by (with_reducible repeat (first | apply Kd.R_alloc | apply Kd.R_drewN | apply Kd.R_drew)); exact HO352.out⟩, ⟨by repeat (first | (with_reducible first | exact HB.out | apply below_alloc | apply pw_below_drewN | apply below_drew1) | exact HB.out)⟩⟩
                    · rw [if_neg c17] at H
                      exact absurd H (by simp)
                  · replace c16 := Bool.eq_false_iff.mpr c16
                    subst c16
                    have H1 : (feature_Intersect.l0 k1 t342 x8_1 (rd_L1 t342 0) ((rd_L1 t342 0).length : Int) (wrap64 (x25_1 + 1))) = some (r1, r2) := by rw [if_neg (show ¬ (false = true) by decide)] at H; exact H
                    clear H
                    have H := H1
                    clear H1
                    have H' := Aside0.mk H
                    clear H
                    have p347 : 0 ≤ (x25_1 : Int) := of_decide_eq_true (by first | (with_reducible assumption) | assumption)
                    have q347 : x25_1 < ((rd_L1 t342 0).length : Int) := of_decide_eq_true (by first | (with_reducible assumption) | assumption)
                    obtain ⟨ad347, e347, hx347_0⟩ := Kd.at_string HR346_0.out x25_1 p347 q347
                    cases e347
                    replace hx347_0 := (HB.out.cell (World.block_lt_of_cell? w9 _ hx347_0)).trans hx347_0
                    replace p347 := eq_true p347
                    replace q347 := eq_true q347
                    have p348 : 0 ≤ (1 : Int) := (by omega)
                    have q348 : 1 < (t342.length : Int) := of_decide_eq_true (by first | (with_reducible assumption) | assumption)
                    obtain ⟨ad348, A348_0, c348_0, e348, hx348_0, hl348_0, hi348_0⟩ := at_L1 (Kd.S_reads' HO_6.out).2.2 1 p348 q348
                    obtain rfl : ad346 = ad348 := (by injection e348)
                    obtain ⟨ce348, hce348, hMe348, hcc348⟩ := Kd.S_get HO_6.out [] 1 p348 (by first | exact q348 | exact of_decide_eq_true (by first | (with_reducible assumption) | assumption) | (have e_ := (Kd.S_reads' HO_6.out).1; omega))
                    obtain ⟨ve348_0, rfl, ge348_0⟩ := hMe348
                    have hv348_0 := hcc348 0 _ rfl
                    rw [Nat.add_zero, show ((Kd.slice 9 Kd.string)).sz = 1 from rfl, Nat.mul_one] at hv348_0
                    replace hv348_0 := Option.some.inj (hv348_0.symm.trans hx348_0)
                    rw [hv348_0] at ge348_0
                    have HL348_0 := Aside0.mk (show Kd.R Kd.string 9 _ _ _ _ (rd_L1 t342 1) from ge348_0)
                    clear hv348_0 ge348_0
                    clear hcc348 hce348
                    (try simp only [show (1 : Int).toNat = 1 from rfl, Nat.reduceMul, Nat.reduceEqDiff, Go.Addr.add, ↓reduceIte] at hx348_0)
                    have qi348 : (1 < t342.length) = True := eq_true (by omega)
                    (try rw [show ((1 : Int)).toNat = 1 from rfl] at hx348_0)
                    have HR348_0 := Aside0.mk hi348_0
                    have HC348_0 := Aside0.mk hl348_0
                    clear hi348_0 hl348_0
                    replace p348 := eq_true p348
                    replace q348 := eq_true q348
                    go_wp2_with (first | ((with_reducible refine gate_callee (f := 33) rfl ?_); refine goesL_ (some 33) rfl rfl Try.func33 (by kernel_rfl) rfl #[.slice A348_0 (rd_L1 t342 1).length c348_0, .string (rdOf ByteArray.empty (rd_L1 t342 0) x25_1)] rfl (by (try simp only [List.map_toArray, List.map_cons, List.map_nil]); first | done | rfl | (simp only [List.length_drop, List.length_take]; rfl)) ?_; (with_reducible refine (feature_contains.calls k1 _ _ (rd_L1 t342 1) (rdOf ByteArray.empty (rd_L1 t342 0) x25_1) false _ ?side1 ?side2 A15.out).mono ?_); (case side1 => repeat (first | exact (by repeat (first | (with_reducible exact HR348_0.out) | (with_reducible refine Kd.C_alloc ?_ _) | (with_reducible refine Kd.C_drewN ?_ _) | (with_reducible refine Kd.C_drew ?_) | exact HR348_0.out)) | (with_reducible refine Kd.C_alloc ?_ _) | (with_reducible refine Kd.C_drewN ?_ _) | (with_reducible refine Kd.C_drew ?_))); (case side2 => exact HC348_0.out); rintro e w' ⟨rfl, ⟨nd, rfl⟩⟩; refine ⟨_, rfl, ?_⟩))
                    go_roundg k1
                    case measure => have := HK1.out; omega
                    case rel => exact ⟨(x8_1), (wrap64 (x25_1 + 1)), (by first | rfl | (simp; done) | (simp [*]; done)), H', ⟨by have := HK1.out; omega⟩, ⟨by (with_reducible repeat (first | apply Kd.S_alloc | apply Kd.S_drewN | apply Kd.S_drew)); exact HO_6.out⟩, ⟨by (with_reducible repeat (first | apply Kd.R_alloc | apply Kd.R_drewN | apply Kd.R_drew)); exact HO_8.out⟩, ⟨by repeat (first | (with_reducible first | exact HB.out | apply below_alloc | apply pw_below_drewN | apply below_drew1) | exact HB.out)⟩⟩
                · rw [if_neg c14] at H
                  exact absurd H (by simp)
              · rw [if_neg c13] at H
                exact absurd H (by simp)
            · rw [if_neg c12] at H
              exact absurd H (by simp)
          · rw [if_neg c11] at H
            have c11b0 : decide (x25_1 < ((rd_L1 t342 0).length : Int)) = false := decide_eq_false c11
            clear c11
            replace H := Option.bind_eq_some_iff.mp H
            obtain ⟨⟨t353, t354⟩, A190, H⟩ := H
            replace H : (some (t353, t354)) = some (r1, r2) := H
            have A19 := Aside0.mk A190
            clear A190
            simp only [Option.some.injEq, Prod.mk.injEq] at H
            obtain ⟨rfl, rfl⟩ := H
            obtain ⟨Ao20, co20, eo20⟩ := Kd.R_slice HO_8.out
            subst eo20
            go_wp2_with (first | ((with_reducible refine gate_callee (f := 16) rfl ?_); refine goesL_ (some 40) rfl rfl Try.func16 (by kernel_rfl) rfl #[.slice Ao20 x8_1.length co20] rfl (by (try simp only [List.map_toArray, List.map_cons, List.map_nil]); first | done | rfl | (simp only [List.length_drop, List.length_take]; rfl)) ?_; (with_reducible refine (feature_Format.calls k1 _ _ x8_1 t353 t354 _ ?side1 ?side2 A19.out).mono ?_); (case side1 => repeat (first | exact (Kd.R_reads' HO_8.out).2.2 | (with_reducible refine Kd.C_alloc ?_ _) | (with_reducible refine Kd.C_drewN ?_ _) | (with_reducible refine Kd.C_drew ?_))); (case side2 => exact (Kd.R_reads' HO_8.out).2.1); rintro e w21 ⟨rfl, hb⟩; refine ⟨_, rfl, ?_⟩; have n0_ := Aside0.mk (Kd.S_below (by (with_reducible repeat (first | apply Kd.S_alloc | apply Kd.S_drewN | apply Kd.S_drew)); exact HO_6.out) hb); have n1_ := Aside0.mk (Kd.R_below (by (with_reducible repeat (first | apply Kd.R_alloc | apply Kd.R_drewN | apply Kd.R_drew)); exact HO_8.out) hb); have n2_ := Aside0.mk (below_step (by repeat (first | (with_reducible first | exact HB.out | apply below_alloc | apply pw_below_drewN | apply below_drew1) | exact HB.out)) hb); clear HO_6; clear HO_8; clear HB; have HO_6 := n0_; have HO_8 := n1_; have HB := n2_; clear n0_ n1_ n2_; (try clear hb); (try clear hb2); (try clear hk); (try clear hi)))
            go_ret2
            exact ⟨by first | rfl | (simp [errW_none, errW_some] <;> rfl) | (simp [*, errW_none, errW_some] <;> rfl), below_step HB0_.out HB.out⟩
    · rw [if_neg c5] at H
      exact absurd H (by simp)
  · rw [if_neg c4] at H
    have c4b0 : (t343 == 0) = false := beq_eq_false_iff_ne.mpr c4
    have c4b1 : (t343 != 0) = true := bne_iff_ne.mpr c4
    simp only [Option.some.injEq, Prod.mk.injEq] at H
    obtain ⟨rfl, rfl⟩ := H
    go_enter Try.func21, Try.ntmps21
    go_wp2_with (first | ((with_reducible refine gate_dst (N := 14) rfl ?_); refine Kd.R_lit Kd.string _ 9 ?hg (N := 14) ?hd (xs := ([a0, a1] : List ByteArray)) (inner := [.string a0, .string a1]) (ok := fun _ => True) (okp := fun _ => True) ?hr ?hp (fun _ hk => hk) trivial (Below.refl _ _) (Nat.le_refl _) (by simp) ?_; (case hd => rfl); (case hg => rfl); (case hr => first | (go_simp; done) | (go_simp; rfl)); (case hp => exact (Reps.one (show Kd.M Kd.string _ _ _ a0 [.string a0] from rfl) (Reps.one (show Kd.M Kd.string _ _ _ a1 [.string a1] from rfl) (Reps.none _ _)))); intro v340 w22 ho23 hb hg_ hnew_; clear hg_ hnew_; (first | rw [← Ny339.out] at ho23 | (simp only [Int.reduceToNat] at ho23; rw [← Ny339.out] at ho23)); have n0_ := Aside0.mk (Kd.R_lower ho23 (below_size (by repeat (first | (with_reducible first | exact HB.out | apply below_alloc | apply pw_below_drewN | apply below_drew1) | exact HB.out)))); have n1_ := Aside0.mk (below_step (by repeat (first | (with_reducible first | exact HB.out | apply below_alloc | apply pw_below_drewN | apply below_drew1) | exact HB.out)) hb); clear HB; have HO341 := n0_; have HB := n1_; clear n0_ n1_; clear hb ho23; obtain ⟨Ao24, co24, eo24⟩ := Kd.R_slice HO341.out; subst eo24) | ((with_reducible refine gate_callee (f := 35) rfl ?_); refine goesL_ (some 15) rfl rfl Try.func35 (by kernel_rfl) rfl #[.slice Ao24 y339.length co24] rfl (by (try simp only [List.map_toArray, List.map_cons, List.map_nil]); first | done | rfl | (simp only [List.length_drop, List.length_take]; rfl)) ?_; (with_reducible refine (feature_parseAll.calls k _ _ y339 t342 t343 _ ?side1 ?side2 A3.out).mono ?_); (case side1 => repeat (first | exact (Kd.R_reads' HO341.out).2.2 | (with_reducible refine Kd.C_alloc ?_ _) | (with_reducible refine Kd.C_drewN ?_ _) | (with_reducible refine Kd.C_drew ?_))); (case side2 => exact (Kd.R_reads' HO341.out).2.1); rintro e w25 ⟨v344, rfl, ho0, hb⟩; refine ⟨_, rfl, ?_⟩; have n0_ := Aside0.mk (Kd.R_below (by (with_reducible repeat (first | apply Kd.R_alloc | apply Kd.R_drewN | apply Kd.R_drew)); exact HO341.out) hb); have n1_ := Aside0.mk (Kd.S_lower (Kd.S_new' ho0 (Kd.R_lt (by (with_reducible repeat (first | apply Kd.R_alloc | apply Kd.R_drewN | apply Kd.R_drew)); exact HO341.out))) (below_size (by repeat (first | (with_reducible first | exact HB.out | apply below_alloc | apply pw_below_drewN | apply below_drew1) | exact HB.out)))); have n2_ := Aside0.mk (below_step (by repeat (first | (with_reducible first | exact HB.out | apply below_alloc | apply pw_below_drewN | apply below_drew1) | exact HB.out)) hb); clear HO341; clear HB; have HO341 := n0_; have HO345 := n1_; have HB := n2_; clear n0_ n1_ n2_; (try clear hb); (try clear hb2); (try clear hk); (try clear hi); (try clear ho0)))
    go_ret2
    exact ⟨by first | rfl | (simp [errW_none, errW_some] <;> rfl) | (simp [*, errW_none, errW_some] <;> rfl), by repeat (first | (with_reducible first | exact HB.out | apply below_alloc | apply pw_below_drewN | apply below_drew1) | exact HB.out)⟩

end Go.Proofs.Ytcgglamgemgeiaa.Q
/- FFeatureSubset -/
namespace Go.Proofs.Ytcgglamgemgeiaa.Q
open Go.RowKit Go.Proofs.YtcgglamgemgeiaaW.PrintWords Go.Proofs.YtcgglamgemgeiaaW.PrintLast Go.Proofs.YtcgglamgemgeiaaW.PrintMore
attribute [local go_sem] max2_int min2_int max_two min_two max_three min_three max_four min_four   -- for this text's walks alone
set_option linter.unusedVariables false
set_option linter.unusedSimpArgs false

/-! ### feature_Subset: function 24 -/
def feature_Subset.l0 : Nat → List (List ByteArray) → List ByteArray → Int → Int → Option (Bool × Int)
  | 0, _, _, _, _ => none
  | k + 1, x6, x22, x23, x24 => if x24 < x23 then (if 0 ≤ x24 then (if x24 < (x22.length : Int) then (if 1 < (x6.length : Int) then ((feature_contains.f k (rd_L1 x6 1) (rdOf ByteArray.empty x22 x24)).bind fun t423 => (if t423 = true then (feature_Subset.l0 k x6 x22 x23 (wrap64 (x24 + 1))) else (some (false, 0)))) else (none)) else (none)) else (none)) else (some (true, 0))
def feature_Subset.f (k : Nat) (a0 : ByteArray) (a1 : ByteArray) : Option (Bool × Int) := (feature_parseAll.f k (([a0, a1] : List ByteArray))).bind fun bt416 => (if bt416.2 = 0 then (if 0 < (bt416.1.length : Int) then (feature_Subset.l0 k bt416.1 (rd_L1 bt416.1 0) ((rd_L1 bt416.1 0).length : Int) 0) else (none)) else (some (false, bt416.2)))
theorem feature_Subset.mono_l : ∀ k, (∀ y0 y1 y2 y3, LeO (feature_Subset.l0 k y0 y1 y2 y3) (feature_Subset.l0 (k + 1) y0 y1 y2 y3))
  | 0 => fun _ _ _ _ r h => by simp [feature_Subset.l0] at h
  | k + 1 => by
    have ih0 := feature_Subset.mono_l k
    · intro y0 y1 y2 y3
      unfold feature_Subset.l0
      repeat' first
      | (with_reducible exact ih0 _ _ _ _)
      | (with_reducible exact feature_contains.mono _ _ _)
      | (with_reducible exact feature_parseAll.mono _ _)
      | (with_reducible exact LeO.refl _)
      | (with_reducible exact LeO.none _)
      | (with_reducible refine LeO.ite ?_ ?_)
      | (with_reducible refine LeO.bind ?_ (fun _ => ?_))
      | exact ih0 _ _ _ _
      | exact feature_contains.mono _ _ _
      | exact feature_parseAll.mono _ _
      | exact LeO.none _
      | refine LeO.ite ?_ ?_
      | refine LeO.bind ?_ (fun _ => ?_)
theorem feature_Subset.mono : ∀ a0 a1 k, LeO (feature_Subset.f k a0 a1) (feature_Subset.f (k + 1) a0 a1) := by
  intro a0 a1 k
  have ih0 := feature_Subset.mono_l k
  unfold feature_Subset.f
  repeat' first
      | (with_reducible exact ih0 _ _ _ _)
      | (with_reducible exact feature_contains.mono _ _ _)
      | (with_reducible exact feature_parseAll.mono _ _)
      | (with_reducible exact LeO.refl _)
      | (with_reducible exact LeO.none _)
      | (with_reducible refine LeO.ite ?_ ?_)
      | (with_reducible refine LeO.bind ?_ (fun _ => ?_))
      | exact ih0 _ _ _ _
      | exact feature_contains.mono _ _ _
      | exact feature_parseAll.mono _ _
      | exact LeO.none _
      | refine LeO.ite ?_ ?_
      | refine LeO.bind ?_ (fun _ => ?_)
set_option maxHeartbeats 8000000 in
set_option maxRecDepth 100000 in
theorem feature_Subset.calls (k : Nat) (a0 : ByteArray) (a1 : ByteArray) (r1 : Bool) (r2 : Int) (w : World) (h : feature_Subset.f k a0 a1 = some (r1, r2)) :
    Calls Try.prog 24 #[.string a0, .string a1] w fun e w' => e = .returned (.tuple #[.bool r1, .int .i64 r2]) ∧ Below w.heap.size w w' := by
  have HB := Aside0.mk (Below.refl w.heap.size w)
  have H : ((feature_parseAll.f k (([a0, a1] : List ByteArray))).bind fun bt416 => (if bt416.2 = 0 then (if 0 < (bt416.1.length : Int) then (feature_Subset.l0 k bt416.1 (rd_L1 bt416.1 0) ((rd_L1 bt416.1 0).length : Int) 0) else (none)) else (some (false, bt416.2)))) = some (r1, r2) := h
  clear h
  obtain ⟨y413, hy413⟩ : ∃ y_ : List ByteArray, y_ = (([a0, a1] : List ByteArray)) := ⟨_, rfl⟩
  replace H : ((feature_parseAll.f k y413).bind fun bt416 => (if bt416.2 = 0 then (if 0 < (bt416.1.length : Int) then (feature_Subset.l0 k bt416.1 (rd_L1 bt416.1 0) ((rd_L1 bt416.1 0).length : Int) 0) else (none)) else (some (false, bt416.2)))) = some (r1, r2) := by first | (rw [hy413]; with_reducible exact H) | (have H2_ := (Option.bind_some _ _).symm.trans H; rw [hy413]; with_reducible exact H2_) | (have H2_ := (Option.bind_some _ _).symm.trans H; with_reducible exact H2_) | with_reducible exact H | (rw [hy413]; exact H) | exact H
  have Ny413 := Aside0.mk hy413
  clear hy413
  replace H := Option.bind_eq_some_iff.mp H
  obtain ⟨⟨t416, t417⟩, A30, H⟩ := H
  replace H : (if t417 = 0 then (if 0 < (t416.length : Int) then (feature_Subset.l0 k t416 (rd_L1 t416 0) ((rd_L1 t416 0).length : Int) 0) else (none)) else (some (false, t417))) = some (r1, r2) := H
  have A3 := Aside0.mk A30
  clear A30
  by_cases c4 : t417 = 0
  · rw [if_pos c4] at H
    have c4b0 : (t417 == 0) = true := beq_iff_eq.mpr c4
    have c4b1 : (t417 != 0) = false := bne_eq_false_iff_eq.mpr c4
    clear c4
    by_cases c5 : 0 < (t416.length : Int)
    · rw [if_pos c5] at H
      have c5b0 : decide (0 < (t416.length : Int)) = true := decide_eq_true c5
      have c5b1 : decide (0 < t416.length) = true := decide_eq_true (by omega)
      clear c5
      have H' := Aside0.mk H
      clear H
      go_enter Try.func24, Try.ntmps24
      go_wp2_with (first | ((with_reducible refine gate_dst (N := 13) rfl ?_); refine Kd.R_lit Kd.string _ 9 ?hg (N := 13) ?hd (xs := ([a0, a1] : List ByteArray)) (inner := [.string a0, .string a1]) (ok := fun _ => True) (okp := fun _ => True) ?hr ?hp (fun _ hk => hk) trivial (Below.refl _ _) (Nat.le_refl _) (by simp) ?_; (case hd => rfl); (case hg => rfl); (case hr => first | (go_simp; done) | (go_simp; rfl)); (case hp => exact (Reps.one (show Kd.M Kd.string _ _ _ a0 [.string a0] from rfl) (Reps.one (show Kd.M Kd.string _ _ _ a1 [.string a1] from rfl) (Reps.none _ _)))); intro v414 w6 ho7 hb hg_ hnew_; clear hg_ hnew_; (first | rw [← Ny413.out] at ho7 | (simp only [Int.reduceToNat] at ho7; rw [← Ny413.out] at ho7)); have n0_ := Aside0.mk (Kd.R_lower ho7 (below_size (by repeat (first | (with_reducible first | exact HB.out | apply below_alloc | apply pw_below_drewN | apply below_drew1) | exact HB.out)))); have n1_ := Aside0.mk (below_step (by repeat (first | (with_reducible first | exact HB.out | apply below_alloc | apply pw_below_drewN | apply below_drew1) | exact HB.out)) hb); clear HB; have HO415 := n0_; have HB := n1_; clear n0_ n1_; clear hb ho7; obtain ⟨Ao8, co8, eo8⟩ := Kd.R_slice HO415.out; subst eo8) | ((with_reducible refine gate_callee (f := 35) rfl ?_); refine goesL_ (some 14) rfl rfl Try.func35 (by kernel_rfl) rfl #[.slice Ao8 y413.length co8] rfl (by (try simp only [List.map_toArray, List.map_cons, List.map_nil]); first | done | rfl | (simp only [List.length_drop, List.length_take]; rfl)) ?_; (with_reducible refine (feature_parseAll.calls k _ _ y413 t416 t417 _ ?side1 ?side2 A3.out).mono ?_); (case side1 => repeat (first | exact (Kd.R_reads' HO415.out).2.2 | (with_reducible refine Kd.C_alloc ?_ _) | (with_reducible refine Kd.C_drewN ?_ _) | (with_reducible refine Kd.C_drew ?_))); (case side2 => exact (Kd.R_reads' HO415.out).2.1); rintro e w9 ⟨v418, rfl, ho0, hb⟩; refine ⟨_, rfl, ?_⟩; have n0_ := Aside0.mk (Kd.R_below (by (with_reducible repeat (first | apply Kd.R_alloc | apply Kd.R_drewN | apply Kd.R_drew)); exact HO415.out) hb); have n1_ := Aside0.mk (Kd.S_lower (Kd.S_new' ho0 (Kd.R_lt (by (with_reducible repeat (first | apply Kd.R_alloc | apply Kd.R_drewN | apply Kd.R_drew)); exact HO415.out))) (below_size (by repeat (first | (with_reducible first | exact HB.out | apply below_alloc | apply pw_below_drewN | apply below_drew1) | exact HB.out)))); have n2_ := Aside0.mk (below_step (by repeat (first | (with_reducible first | exact HB.out | apply below_alloc | apply pw_below_drewN | apply below_drew1) | exact HB.out)) hb); clear HO415; clear HB; have HO415 := n0_; have HO419 := n1_; have HB := n2_; clear n0_ n1_ n2_; (try clear hb); (try clear hb2); (try clear hk); (try clear hi); (try clear ho0); obtain ⟨Ao10, co10, eo10⟩ := Kd.S_slice HO419.out; subst eo10; have p420 : 0 ≤ (0 : Int) := (by omega); have q420 : 0 < (t416.length : Int) := of_decide_eq_true (by first | (with_reducible assumption) | assumption); obtain ⟨ad420, A420_0, c420_0, e420, hx420_0, hl420_0, hi420_0⟩ := at_L1 (Kd.S_reads' HO419.out).2.2 0 p420 q420; cases e420; obtain ⟨ce420, hce420, hMe420, hcc420⟩ := Kd.S_get HO419.out [] 0 p420 (by first | exact q420 | exact of_decide_eq_true (by first | (with_reducible assumption) | assumption) | (have e_ := (Kd.S_reads' HO419.out).1; omega)); obtain ⟨ve420_0, rfl, ge420_0⟩ := hMe420; have hv420_0 := hcc420 0 _ rfl; rw [Nat.add_zero, show ((Kd.slice 9 Kd.string)).sz = 1 from rfl, Nat.mul_one] at hv420_0; replace hv420_0 := Option.some.inj (hv420_0.symm.trans hx420_0); rw [hv420_0] at ge420_0; have HL420_0 := Aside0.mk (show Kd.R Kd.string 9 _ _ _ _ (rd_L1 t416 0) from ge420_0); clear hv420_0 ge420_0; clear hcc420 hce420; have qi420 : (0 < t416.length) = True := eq_true (by omega); (try rw [show ((0 : Int)).toNat = 0 from rfl] at hx420_0); (try rw [Addr.add_zero'] at hx420_0); have HR420_0 := Aside0.mk hi420_0; have HC420_0 := Aside0.mk hl420_0; clear hi420_0 hl420_0; replace p420 := eq_true p420; replace q420 := eq_true q420))
      go_loopg [24] k (fun kq v24 w' => ∃ (x24_1 : Int), v24 = .int .i64 x24_1 ∧ Aside0 (feature_Subset.l0 kq t416 (rd_L1 t416 0) ((rd_L1 t416 0).length : Int) x24_1 = some (r1, r2)) ∧ Aside0 (kq ≤ k) ∧ Aside0 (Kd.S (Kd.slice 9 Kd.string) 23 w' w.heap.size (fun _ => True) (.slice (some ad420) t416.length co10) t416) ∧ Aside0 (Kd.C Kd.string w' A420_0 (rd_L1 t416 0).length (rd_L1 t416 0)) ∧ Aside0 (Below w.heap.size w w'))
      case atStart => exact ⟨(0), (by first | rfl | (simp; done) | (simp [*]; done)), H', ⟨Nat.le_refl _⟩, ⟨by (with_reducible repeat (first | apply Kd.S_alloc | apply Kd.S_drewN | apply Kd.S_drew)); exact Kd.S_mono HO419.out (fun _ hk => trivial)⟩, ⟨by repeat (first | (with_reducible exact HR420_0.out) | (with_reducible refine Kd.C_alloc ?_ _) | (with_reducible refine Kd.C_drewN ?_ _) | (with_reducible refine Kd.C_drew ?_) | exact HR420_0.out)⟩, ⟨by repeat (first | (with_reducible first | exact HB.out | apply below_alloc | apply pw_below_drewN | apply below_drew1) | exact HB.out)⟩⟩
      case round =>
        clear H'
        try clear c2
        try clear p2
        try clear c3
        try clear c4
        try clear c4b0
        try clear c4b1
        try clear p4
        try clear q4
        try clear hx4
        try clear qi4
        try clear c5
        try clear c5b0
        try clear c5b1
        try clear hx420_0
        try clear p420
        try clear q420
        obtain ⟨x24_1, rfl, HA, HK1, HO_6, HR420_0, HB⟩ := hrel
        cases gk with
        | zero => exact absurd HA.out (by simp [feature_Subset.l0])
        | succ k1 =>
          have H := HA.out
          clear HA
          simp only [feature_Subset.l0] at H
          by_cases c11 : x24_1 < ((rd_L1 t416 0).length : Int)
          · rw [if_pos c11] at H
            have c11b0 : decide (x24_1 < ((rd_L1 t416 0).length : Int)) = true := decide_eq_true c11
            clear c11
            by_cases c12 : 0 ≤ x24_1
            · rw [if_pos c12] at H
              have c12b0 : decide (0 ≤ x24_1) = true := decide_eq_true c12
              clear c12
              by_cases c13 : x24_1 < ((rd_L1 t416 0).length : Int)
              · rw [if_pos c13] at H
                have c13b0 : decide (x24_1 < ((rd_L1 t416 0).length : Int)) = true := decide_eq_true c13
                clear c13
                by_cases c14 : 1 < (t416.length : Int)
                · rw [if_pos c14] at H
                  have c14b0 : decide (1 < (t416.length : Int)) = true := decide_eq_true c14
                  have c14b1 : decide (1 < t416.length) = true := decide_eq_true (by omega)
                  clear c14
                  replace H := Option.bind_eq_some_iff.mp H
                  obtain ⟨t423, A150, H⟩ := H
                  replace H : (if t423 = true then (feature_Subset.l0 k1 t416 (rd_L1 t416 0) ((rd_L1 t416 0).length : Int) (wrap64 (x24_1 + 1))) else (some (false, 0))) = some (r1, r2) := H
                  have A15 := Aside0.mk A150
                  clear A150
                  by_cases c16 : t423 = true
                  · subst c16
                    have H1 : (feature_Subset.l0 k1 t416 (rd_L1 t416 0) ((rd_L1 t416 0).length : Int) (wrap64 (x24_1 + 1))) = some (r1, r2) := by rw [if_pos rfl] at H; exact H
                    clear H
                    have H := H1
                    clear H1
                    have H' := Aside0.mk H
                    clear H
                    have p421 : 0 ≤ (x24_1 : Int) := of_decide_eq_true (by first | (with_reducible assumption) | assumption)
                    have q421 : x24_1 < ((rd_L1 t416 0).length : Int) := of_decide_eq_true (by first | (with_reducible assumption) | assumption)
                    obtain ⟨ad421, e421, hx421_0⟩ := Kd.at_string HR420_0.out x24_1 p421 q421
                    cases e421
                    replace p421 := eq_true p421
                    replace q421 := eq_true q421
                    have p422 : 0 ≤ (1 : Int) := (by omega)
                    have q422 : 1 < (t416.length : Int) := of_decide_eq_true (by first | (with_reducible assumption) | assumption)
                    obtain ⟨ad422, A422_0, c422_0, e422, hx422_0, hl422_0, hi422_0⟩ := at_L1 (Kd.S_reads' HO_6.out).2.2 1 p422 q422
                    obtain rfl : ad420 = ad422 := (by injection e422)
                    obtain ⟨ce422, hce422, hMe422, hcc422⟩ := Kd.S_get HO_6.out [] 1 p422 (by first | exact q422 | exact of_decide_eq_true (by first | (with_reducible assumption) | assumption) | (have e_ := (Kd.S_reads' HO_6.out).1; omega))
                    obtain ⟨ve422_0, rfl, ge422_0⟩ := hMe422
                    have hv422_0 := hcc422 0 _ rfl
                    rw [Nat.add_zero, show ((Kd.slice 9 Kd.string)).sz = 1 from rfl, Nat.mul_one] at hv422_0
                    replace hv422_0 := Option.some.inj (hv422_0.symm.trans hx422_0)
                    rw [hv422_0] at ge422_0
                    have HL422_0 := Aside0.mk (show Kd.R Kd.string 9 _ _ _ _ (rd_L1 t416 1) from ge422_0)
                    clear hv422_0 ge422_0
                    clear hcc422 hce422
                    (try simp only [show (1 : Int).toNat = 1 from rfl, Nat.reduceMul, Nat.reduceEqDiff, Go.Addr.add, ↓reduceIte] at hx422_0)
                    have qi422 : (1 < t416.length) = True := eq_true (by omega)
                    (try rw [show ((1 : Int)).toNat = 1 from rfl] at hx422_0)
                    have HR422_0 := Aside0.mk hi422_0
                    have HC422_0 := Aside0.mk hl422_0
                    clear hi422_0 hl422_0
                    replace p422 := eq_true p422
                    replace q422 := eq_true q422
                    go_wp2_with (first | ((with_reducible refine gate_callee (f := 33) rfl ?_); refine goesL_ (some 32) rfl rfl Try.func33 (by kernel_rfl) rfl #[.slice A422_0 (rd_L1 t416 1).length c422_0, .string (rdOf ByteArray.empty (rd_L1 t416 0) x24_1)] rfl (by (try simp only [List.map_toArray, List.map_cons, List.map_nil]); first | done | rfl | (simp only [List.length_drop, List.length_take]; rfl)) ?_; (with_reducible refine (feature_contains.calls k1 _ _ (rd_L1 t416 1) (rdOf ByteArray.empty (rd_L1 t416 0) x24_1) true _ ?side1 ?side2 A15.out).mono ?_); (case side1 => repeat (first | exact (by repeat (first | (with_reducible exact HR422_0.out) | (with_reducible refine Kd.C_alloc ?_ _) | (with_reducible refine Kd.C_drewN ?_ _) | (with_reducible refine Kd.C_drew ?_) | exact HR422_0.out)) | (with_reducible refine Kd.C_alloc ?_ _) | (with_reducible refine Kd.C_drewN ?_ _) | (with_reducible refine Kd.C_drew ?_))); (case side2 => exact HC422_0.out); rintro e w' ⟨rfl, ⟨nd, rfl⟩⟩; refine ⟨_, rfl, ?_⟩))
                    go_roundg k1
                    case measure => have := HK1.out; omega
                    case rel => exact ⟨(wrap64 (x24_1 + 1)), (by first | rfl | (simp; done) | (simp [*]; done)), H', ⟨by have := HK1.out; omega⟩, ⟨by (with_reducible repeat (first | apply Kd.S_alloc | apply Kd.S_drewN | apply Kd.S_drew)); exact HO_6.out⟩, ⟨by repeat (first | (with_reducible exact HR420_0.out) | (with_reducible refine Kd.C_alloc ?_ _) | (with_reducible refine Kd.C_drewN ?_ _) | (with_reducible refine Kd.C_drew ?_) | exact HR420_0.out)⟩, ⟨by repeat (first | (with_reducible first | exact HB.out | apply below_alloc | apply pw_below_drewN | apply below_drew1) | exact HB.out)⟩⟩
                  · replace c16 := Bool.eq_false_iff.mpr c16
                    subst c16
                    have H1 : (some (false, 0)) = some (r1, r2) := by rw [if_neg (show ¬ (false = true) by decide)] at H; exact H
                    clear H
                    have H := H1
                    clear H1
                    simp only [Option.some.injEq, Prod.mk.injEq] at H
                    obtain ⟨rfl, rfl⟩ := H
                    have p421 : 0 ≤ (x24_1 : Int) := of_decide_eq_true (by first | (with_reducible assumption) | assumption)
                    have q421 : x24_1 < ((rd_L1 t416 0).length : Int) := of_decide_eq_true (by first | (with_reducible assumption) | assumption)
                    obtain ⟨ad421, e421, hx421_0⟩ := Kd.at_string HR420_0.out x24_1 p421 q421
                    cases e421
                    replace p421 := eq_true p421
                    replace q421 := eq_true q421
                    have p422 : 0 ≤ (1 : Int) := (by omega)
                    have q422 : 1 < (t416.length : Int) := of_decide_eq_true (by first | (with_reducible assumption) | assumption)
                    obtain ⟨ad422, A422_0, c422_0, e422, hx422_0, hl422_0, hi422_0⟩ := at_L1 (Kd.S_reads' HO_6.out).2.2 1 p422 q422
                    obtain rfl : ad420 = ad422 := (by injection e422)
                    obtain ⟨ce422, hce422, hMe422, hcc422⟩ := Kd.S_get HO_6.out [] 1 p422 (by first | exact q422 | exact of_decide_eq_true (by first | (with_reducible assumption) | assumption) | (have e_ := (Kd.S_reads' HO_6.out).1; omega))
                    obtain ⟨ve422_0, rfl, ge422_0⟩ := hMe422
                    have hv422_0 := hcc422 0 _ rfl
                    rw [Nat.add_zero, show ((Kd.slice 9 Kd.string)).sz = 1 from rfl, Nat.mul_one] at hv422_0
                    replace hv422_0 := Option.some.inj (hv422_0.symm.trans hx422_0)
                    rw [hv422_0] at ge422_0
                    have HL422_0 := Aside0.mk (show Kd.R Kd.string 9 _ _ _ _ (rd_L1 t416 1) from ge422_0)
                    clear hv422_0 ge422_0
                    clear hcc422 hce422
                    (try simp only [show (1 : Int).toNat = 1 from rfl, Nat.reduceMul, Nat.reduceEqDiff, Go.Addr.add, ↓reduceIte] at hx422_0)
                    have qi422 : (1 < t416.length) = True := eq_true (by omega)
                    (try rw [show ((1 : Int)).toNat = 1 from rfl] at hx422_0)
                    have HR422_0 := Aside0.mk hi422_0
                    have HC422_0 := Aside0.mk hl422_0
                    clear hi422_0 hl422_0
                    replace p422 := eq_true p422
                    replace q422 := eq_true q422
                    go_wp2_with (first | ((with_reducible refine gate_callee (f := 33) rfl ?_); refine goesL_ (some 32) rfl rfl Try.func33 (by kernel_rfl) rfl #[.slice A422_0 (rd_L1 t416 1).length c422_0, .string (rdOf ByteArray.empty (rd_L1 t416 0) x24_1)] rfl (by (try simp only [List.map_toArray, List.map_cons, List.map_nil]); first | done | rfl | (simp only [List.length_drop, List.length_take]; rfl)) ?_; (with_reducible refine (feature_contains.calls k1 _ _ (rd_L1 t416 1) (rdOf ByteArray.empty (rd_L1 t416 0) x24_1) false _ ?side1 ?side2 A15.out).mono ?_); (case side1 => repeat (first | exact (by repeat (first | (with_reducible exact HR422_0.out) | (with_reducible refine Kd.C_alloc ?_ _) | (with_reducible refine Kd.C_drewN ?_ _) | (with_reducible refine Kd.C_drew ?_) | exact HR422_0.out)) | (with_reducible refine Kd.C_alloc ?_ _) | (with_reducible refine Kd.C_drewN ?_ _) | (with_reducible refine Kd.C_drew ?_))); (case side2 => exact HC422_0.out); rintro e w' ⟨rfl, ⟨nd, rfl⟩⟩; refine ⟨_, rfl, ?_⟩))
                    go_ret2
                    exact ⟨by first | rfl | (simp [errW_none, errW_some] <;> rfl) | (simp [*, errW_none, errW_some] <;> rfl), by repeat (first | (with_reducible first | exact HB.out | apply below_alloc | apply pw_below_drewN | apply below_drew1) | exact HB.out)⟩
                · rw [if_neg c14] at H
                  exact absurd H (by simp)
              · rw [if_neg c13] at H
                exact absurd H (by simp)
            · rw [if_neg c12] at H
              exact absurd H (by simp)
          · rw [if_neg c11] at H
            have c11b0 : decide (x24_1 < ((rd_L1 t416 0).length : Int)) = false := decide_eq_false c11
            clear c11
            simp only [Option.some.injEq, Prod.mk.injEq] at H
            obtain ⟨rfl, rfl⟩ := H
            go_wp2
            go_ret2
            exact ⟨by first | rfl | (simp [errW_none, errW_some] <;> rfl) | (simp [*, errW_none, errW_some] <;> rfl), by repeat (first | (with_reducible first | exact HB.out | apply below_alloc | apply pw_below_drewN | apply below_drew1) | exact HB.out)⟩
    · rw [if_neg c5] at H
      exact absurd H (by simp)
  · rw [if_neg c4] at H
    have c4b0 : (t417 == 0) = false := beq_eq_false_iff_ne.mpr c4
    have c4b1 : (t417 != 0) = true := bne_iff_ne.mpr c4
    simp only [Option.some.injEq, Prod.mk.injEq] at H
    obtain ⟨rfl, rfl⟩ := H
    go_enter Try.func24, Try.ntmps24
    go_wp2_with (first | ((with_reducible refine gate_dst (N := 13) rfl ?_); refine Kd.R_lit Kd.string _ 9 ?hg (N := 13) ?hd (xs := ([a0, a1] : List ByteArray)) (inner := [.string a0, .string a1]) (ok := fun _ => True) (okp := fun _ => True) ?hr ?hp (fun _ hk => hk) trivial (Below.refl _ _) (Nat.le_refl _) (by simp) ?_; (case hd => rfl); (case hg => rfl); (case hr => first | (go_simp; done) | (go_simp; rfl)); (case hp => exact (Reps.one (show Kd.M Kd.string _ _ _ a0 [.string a0] from rfl) (Reps.one (show Kd.M Kd.string _ _ _ a1 [.string a1] from rfl) (Reps.none _ _)))); intro v414 w17 ho18 hb hg_ hnew_; clear hg_ hnew_; (first | rw [← Ny413.out] at ho18 | (simp only [Int.reduceToNat] at ho18; rw [← Ny413.out] at ho18)); have n0_ := Aside0.mk (Kd.R_lower ho18 (below_size (by repeat (first | (with_reducible first | exact HB.out | apply below_alloc | apply pw_below_drewN | apply below_drew1) | exact HB.out)))); have n1_ := Aside0.mk (below_step (by repeat (first | (with_reducible first | exact HB.out | apply below_alloc | apply pw_below_drewN | apply below_drew1) | exact HB.out)) hb); clear HB; have HO415 := n0_; have HB := n1_; clear n0_ n1_; clear hb ho18; obtain ⟨Ao19, co19, eo19⟩ := Kd.R_slice HO415.out; subst eo19) | ((with_reducible refine gate_callee (f := 35) rfl ?_); refine goesL_ (some 14) rfl rfl Try.func35 (by kernel_rfl) rfl #[.slice Ao19 y413.length co19] rfl (by (try simp only [List.map_toArray, List.map_cons, List.map_nil]); first | done | rfl | (simp only [List.length_drop, List.length_take]; rfl)) ?_; (with_reducible refine (feature_parseAll.calls k _ _ y413 t416 t417 _ ?side1 ?side2 A3.out).mono ?_); (case side1 => repeat (first | exact (Kd.R_reads' HO415.out).2.2 | (with_reducible refine Kd.C_alloc ?_ _) | (with_reducible refine Kd.C_drewN ?_ _) | (with_reducible refine Kd.C_drew ?_))); (case side2 => exact (Kd.R_reads' HO415.out).2.1); rintro e w20 ⟨v418, rfl, ho0, hb⟩; refine ⟨_, rfl, ?_⟩; have n0_ := Aside0.mk (Kd.R_below (by (with_reducible repeat (first | apply Kd.R_alloc | apply Kd.R_drewN | apply Kd.R_drew)); exact HO415.out) hb); have n1_ := Aside0.mk (Kd.S_lower (Kd.S_new' ho0 (Kd.R_lt (by (with_reducible repeat (first | apply Kd.R_alloc | apply Kd.R_drewN | apply Kd.R_drew)); exact HO415.out))) (below_size (by repeat (first | (with_reducible first | exact HB.out | apply below_alloc | apply pw_below_drewN | apply below_drew1) | exact HB.out)))); have n2_ := Aside0.mk (below_step (by repeat (first | (with_reducible first | exact HB.out | apply below_alloc | apply pw_below_drewN | apply below_drew1) | exact HB.out)) hb); clear HO415; clear HB; have HO415 := n0_; have HO419 := n1_; have HB := n2_; clear n0_ n1_ n2_; (try clear hb); (try clear hb2); (try clear hk); (try clear hi); (try clear ho0)))
    go_ret2
    exact ⟨by first | rfl | (simp [errW_none, errW_some] <;> rfl) | (simp [*, errW_none, errW_some] <;> rfl), by repeat (first | (with_reducible first | exact HB.out | apply below_alloc | apply pw_below_drewN | apply below_drew1) | exact HB.out)⟩

end Go.Proofs.Ytcgglamgemgeiaa.Q
/- FFeatureHas -/
namespace Go.Proofs.Ytcgglamgemgeiaa.Q
open Go.RowKit Go.Proofs.YtcgglamgemgeiaaW.PrintWords Go.Proofs.YtcgglamgemgeiaaW.PrintLast Go.Proofs.YtcgglamgemgeiaaW.PrintMore
attribute [local go_sem] max2_int min2_int max_two min_two max_three min_three max_four min_four   -- for this text's walks alone
set_option linter.unusedVariables false
set_option linter.unusedSimpArgs false

/-! ### feature_Has: function 18 -/
def feature_Has.f (k : Nat) (a0 : ByteArray) (a1 : ByteArray) : Option (Bool) := (feature_Parse.f k a0).bind fun bt321 => (if bt321.2 = 0 then ((feature_contains.f k bt321.1 a1).bind fun t325 => (some t325)) else (some false))
theorem feature_Has.mono : ∀ a0 a1 k, LeO (feature_Has.f k a0 a1) (feature_Has.f (k + 1) a0 a1) := by
  intro a0 a1 k
  unfold feature_Has.f
  repeat' first
      | (with_reducible exact feature_Parse.mono _ _)
      | (with_reducible exact feature_contains.mono _ _ _)
      | (with_reducible exact LeO.refl _)
      | (with_reducible exact LeO.none _)
      | (with_reducible refine LeO.ite ?_ ?_)
      | (with_reducible refine LeO.bind ?_ (fun _ => ?_))
      | exact feature_Parse.mono _ _
      | exact feature_contains.mono _ _ _
      | exact LeO.none _
      | refine LeO.ite ?_ ?_
      | refine LeO.bind ?_ (fun _ => ?_)
set_option maxHeartbeats 8000000 in
set_option maxRecDepth 100000 in
theorem feature_Has.calls (k : Nat) (a0 : ByteArray) (a1 : ByteArray) (r : Bool) (w : World) (h : feature_Has.f k a0 a1 = some r) :
    Calls Try.prog 18 #[.string a0, .string a1] w fun e w' => e = .returned (.bool r) ∧ Below w.heap.size w w' := by
  have HB := Aside0.mk (Below.refl w.heap.size w)
  have H : ((feature_Parse.f k a0).bind fun bt321 => (if bt321.2 = 0 then ((feature_contains.f k bt321.1 a1).bind fun t325 => (some t325)) else (some false))) = some r := h
  clear h
  replace H := Option.bind_eq_some_iff.mp H
  obtain ⟨⟨t321, t322⟩, A30, H⟩ := H
  replace H : (if t322 = 0 then ((feature_contains.f k t321 a1).bind fun t325 => (some t325)) else (some false)) = some r := H
  have A3 := Aside0.mk A30
  clear A30
  by_cases c4 : t322 = 0
  · rw [if_pos c4] at H
    have c4b0 : (t322 == 0) = true := beq_iff_eq.mpr c4
    have c4b1 : (t322 != 0) = false := bne_eq_false_iff_eq.mpr c4
    clear c4
    replace H := Option.bind_eq_some_iff.mp H
    obtain ⟨t325, A50, H⟩ := H
    replace H : (some t325) = some r := H
    have A5 := Aside0.mk A50
    clear A50
    obtain rfl := Option.some.inj H
    go_enter Try.func18, Try.ntmps18
    go_wp2_with (first | ((with_reducible refine gate_callee (f := 12) rfl ?_); refine goesL_ (some 9) rfl rfl Try.func12 (by kernel_rfl) rfl #[.string a0] rfl (by (try simp only [List.map_toArray, List.map_cons, List.map_nil]); first | done | rfl | (simp only [List.length_drop, List.length_take]; rfl)) ?_; (with_reducible refine (feature_Parse.calls k a0 t321 t322 _ A3.out).mono ?_); rintro e w6 ⟨v323, rfl, ho0, hb⟩; refine ⟨_, rfl, ?_⟩; have n0_ := Aside0.mk (Kd.R_lower ho0 (below_size (by repeat (first | (with_reducible first | exact HB.out | apply below_alloc | apply pw_below_drewN | apply below_drew1) | exact HB.out)))); have n1_ := Aside0.mk (below_step (by repeat (first | (with_reducible first | exact HB.out | apply below_alloc | apply pw_below_drewN | apply below_drew1) | exact HB.out)) hb); clear HB; have HO324 := n0_; have HB := n1_; clear n0_ n1_; (try clear hb); (try clear hb2); (try clear hk); (try clear hi); (try clear ho0); obtain ⟨Ao7, co7, eo7⟩ := Kd.R_slice HO324.out; subst eo7) | (go_at_call 33; (with_reducible refine (feature_contains.calls k _ _ t321 a1 t325 _ ?side1 ?side2 A5.out).mono ?_); (case side1 => repeat (first | exact (Kd.R_reads' HO324.out).2.2 | (with_reducible refine Kd.C_alloc ?_ _) | (with_reducible refine Kd.C_drewN ?_ _) | (with_reducible refine Kd.C_drew ?_))); (case side2 => exact (Kd.R_reads' HO324.out).2.1); rintro e w' ⟨rfl, ⟨nd, rfl⟩⟩))
    go_ret
    exact ⟨by first | rfl | (simp [errW_none, errW_some] <;> rfl) | (simp [*, errW_none, errW_some] <;> rfl), by repeat (first | (with_reducible first | exact HB.out | apply below_alloc | apply pw_below_drewN | apply below_drew1) | exact HB.out)⟩
  · rw [if_neg c4] at H
    have c4b0 : (t322 == 0) = false := beq_eq_false_iff_ne.mpr c4
    have c4b1 : (t322 != 0) = true := bne_iff_ne.mpr c4
    obtain rfl := Option.some.inj H
    go_enter Try.func18, Try.ntmps18
    go_wp2_with (first | ((with_reducible refine gate_callee (f := 12) rfl ?_); refine goesL_ (some 9) rfl rfl Try.func12 (by kernel_rfl) rfl #[.string a0] rfl (by (try simp only [List.map_toArray, List.map_cons, List.map_nil]); first | done | rfl | (simp only [List.length_drop, List.length_take]; rfl)) ?_; (with_reducible refine (feature_Parse.calls k a0 t321 t322 _ A3.out).mono ?_); rintro e w8 ⟨v323, rfl, ho0, hb⟩; refine ⟨_, rfl, ?_⟩; have n0_ := Aside0.mk (Kd.R_lower ho0 (below_size (by repeat (first | (with_reducible first | exact HB.out | apply below_alloc | apply pw_below_drewN | apply below_drew1) | exact HB.out)))); have n1_ := Aside0.mk (below_step (by repeat (first | (with_reducible first | exact HB.out | apply below_alloc | apply pw_below_drewN | apply below_drew1) | exact HB.out)) hb); clear HB; have HO324 := n0_; have HB := n1_; clear n0_ n1_; (try clear hb); (try clear hb2); (try clear hk); (try clear hi); (try clear ho0)))
    go_ret
    exact ⟨by first | rfl | (simp [errW_none, errW_some] <;> rfl) | (simp [*, errW_none, errW_some] <;> rfl), by repeat (first | (with_reducible first | exact HB.out | apply below_alloc | apply pw_below_drewN | apply below_drew1) | exact HB.out)⟩

end Go.Proofs.Ytcgglamgemgeiaa.Q
/- FEv3 -/
namespace Go.Proofs.Ytcgglamgemgeiaa.Q
open Go.RowKit Go.Lib Go.Proofs.YtcgglamgemgeiaaW.PrintWords Go.Proofs.YtcgglamgemgeiaaW.PrintLast
theorem PR_len (s : ByteArray) : (PR s).1.length ≤ 120 := by
  by_cases h : (PR s).2 = 0
  · obtain ⟨h1, _, _, h4⟩ := PR_ok (PR_eta h)
    have h5 : s.size = 1 + (tailT (PR s).1).length := by rw [← size_text, ← h1]
    have := len_tail (PR s).1
    omega
  · rw [PR_err h]; simp
/-- The answer of parseAll at two sets. -/
def PA (a b : ByteArray) : List (List ByteArray) × Int := if (PR a).2 ≠ 0 then ([], (PR a).2) else if (PR b).2 ≠ 0 then ([], (PR b).2) else ([(PR a).1, (PR b).1], 0)
theorem parseAll_ev (a b : ByteArray) : Ev (fun k => feature_parseAll.f k [a, b]) (PA a b) := by
  unfold feature_parseAll.f PA
  have w1 : wrap64 ((0 : Int) + 1) = 1 := by unfold wrap64; omega
  have w2 : wrap64 ((1 : Int) + 1) = 2 := by unfold wrap64; omega
  have hl : (([a, b] : List ByteArray).length : Int) = 2 := rfl
  rw [hl]
  refine Ev.step (fun k => by rw [feature_parseAll.l0]) ?_
  refine ev_pos (by omega) (ev_pos (by omega) (ev_pos (by simp) ?_))
  rw [w1]
  refine Ev.bind (parse_ev a) ?_
  by_cases h1 : (PR a).2 = 0
  · refine ev_pos h1 (ev_pos (by simp) ?_)
    rw [if_neg (by simp [h1])]
    refine Ev.step (fun k => by rw [feature_parseAll.l0]) ?_
    refine ev_pos (by omega) (ev_pos (by omega) (ev_pos (by simp) ?_))
    rw [w2]
    refine Ev.bind (parse_ev b) ?_
    by_cases h2 : (PR b).2 = 0
    · refine ev_pos h2 (ev_pos (by simp) ?_)
      rw [if_neg (by simp [h2])]
      refine Ev.step (fun k => by rw [feature_parseAll.l0]) ?_
      exact ev_neg (by omega) (Ev.now _)
    · refine ev_neg h2 (ev_now ?_)
      rw [if_pos h2]
  · refine ev_neg h1 (ev_now ?_)
    rw [if_pos h1]
theorem union_ev (a b : ByteArray) : Ev (fun k => feature_Union.f k a b) (UN a b) := by
  unfold feature_Union.f
  refine Ev.bind (parseAll_ev a b) ?_
  unfold PA UN
  by_cases h1 : (PR a).2 = 0
  · by_cases h2 : (PR b).2 = 0
    · rw [if_neg (by simp [h1]), if_neg (by simp [h2]), if_neg (by simp [h1]), if_neg (by simp [h2])]
      have l1 := PR_len a
      have l2 := PR_len b
      refine ev_pos rfl (ev_pos (by simp) (ev_pos (by simp) (ev_pos (show (PR a).1.length + (PR b).1.length < 8796093022208 by omega) ?_)))
      refine Ev.bind (format_ev ((PR a).1 ++ (PR b).1) (by rw [List.length_append]; omega)) (ev_now rfl)
    · rw [if_neg (by simp [h1]), if_pos h2, if_neg (by simp [h1]), if_pos h2]
      exact ev_neg h2 (Ev.now _)
  · rw [if_pos h1, if_pos h1]
    exact ev_neg h1 (Ev.now _)
theorem intersect_loop (x y : List ByteArray) (hx : x.length ≤ 120) (hy : y.length ≤ 120) : ∀ (d i : Nat) (acc : List ByteArray), i + d = x.length → acc.length ≤ i →
    Ev (fun k => feature_Intersect.l0 k [x, y] acc x (x.length : Int) (i : Int)) (FM (acc ++ (x.drop i).filter (memb y))) := by
  intro d
  induction d with
  | zero =>
    intro i acc hd ha
    refine Ev.step (fun k => by rw [feature_Intersect.l0]) (ev_neg (by omega) ?_)
    rw [List.drop_eq_nil_of_le (by omega), List.filter_nil, List.append_nil]
    exact Ev.bind (format_ev acc (by omega)) (ev_now rfl)
  | succ d ih =>
    intro i acc hd ha
    have hi : i < x.length := by omega
    refine Ev.step (fun k => by rw [feature_Intersect.l0]) (ev_pos (by omega) (ev_pos (by omega) (ev_pos (by omega) (ev_pos (by simp) ?_))))
    rw [rd_nat hi]
    refine Ev.bind (contains_ev y x[i] (by omega)) ?_
    have hdr : x.drop i = x[i] :: x.drop (i + 1) := List.drop_eq_getElem_cons hi
    rw [wrap_up i (by omega)]
    cases hm : memb y x[i] with
    | true =>
      refine ev_pos rfl (ev_pos (by omega) ?_)
      refine ev_eq (ih (i + 1) _ (by omega) (by rw [List.length_append, List.length_singleton]; omega)) ?_
      rw [hdr, List.filter_cons, hm, if_pos rfl, List.append_assoc]; rfl
    | false =>
      refine ev_neg (by simp) ?_
      refine ev_eq (ih (i + 1) _ (by omega) (by omega)) ?_
      rw [hdr, List.filter_cons, hm, if_neg (by simp)]
theorem intersect_ev (a b : ByteArray) : Ev (fun k => feature_Intersect.f k a b) (IS a b) := by
  unfold feature_Intersect.f
  refine Ev.bind (parseAll_ev a b) ?_
  unfold PA IS
  by_cases h1 : (PR a).2 = 0
  · by_cases h2 : (PR b).2 = 0
    · rw [if_neg (by simp [h1]), if_neg (by simp [h2]), if_neg (by simp [h1]), if_neg (by simp [h2])]
      refine ev_pos rfl (ev_pos (by simp) ?_)
      refine ev_eq (intersect_loop (PR a).1 (PR b).1 (PR_len a) (PR_len b) (PR a).1.length 0 [] (by omega) (by simp)) ?_
      rw [List.drop_zero, List.nil_append]
      exact FM_same (filter_text (PR_eta h1) (memb (PR b).1)) (fun _ => Iff.rfl)
    · rw [if_neg (by simp [h1]), if_pos h2, if_neg (by simp [h1]), if_pos h2]
      exact ev_neg h2 (Ev.now _)
  · rw [if_pos h1, if_pos h1]
    exact ev_neg h1 (Ev.now _)
theorem subset_loop (x y : List ByteArray) (hx : x.length ≤ 120) (hy : y.length ≤ 120) : ∀ (d i : Nat), i + d = x.length →
    Ev (fun k => feature_Subset.l0 k [x, y] x (x.length : Int) (i : Int)) ((x.drop i).all (memb y), 0) := by
  intro d
  induction d with
  | zero =>
    intro i hd
    refine Ev.step (fun k => by rw [feature_Subset.l0]) (ev_neg (by omega) ?_)
    rw [List.drop_eq_nil_of_le (by omega)]
    exact Ev.now _
  | succ d ih =>
    intro i hd
    have hi : i < x.length := by omega
    refine Ev.step (fun k => by rw [feature_Subset.l0]) (ev_pos (by omega) (ev_pos (by omega) (ev_pos (by omega) (ev_pos (by simp) ?_))))
    rw [rd_nat hi]
    refine Ev.bind (contains_ev y x[i] (by omega)) ?_
    have hdr : x.drop i = x[i] :: x.drop (i + 1) := List.drop_eq_getElem_cons hi
    rw [wrap_up i (by omega)]
    cases hm : memb y x[i] with
    | true =>
      refine ev_pos rfl ?_
      refine ev_eq (ih (i + 1) (by omega)) ?_
      rw [hdr, List.all_cons, hm, Bool.true_and]
    | false =>
      refine ev_neg (by simp) (ev_now ?_)
      rw [hdr, List.all_cons, hm, Bool.false_and]
theorem subset_ev (a b : ByteArray) : Ev (fun k => feature_Subset.f k a b) (SB a b) := by
  unfold feature_Subset.f
  refine Ev.bind (parseAll_ev a b) ?_
  unfold PA SB
  by_cases h1 : (PR a).2 = 0
  · by_cases h2 : (PR b).2 = 0
    · rw [if_neg (by simp [h1]), if_neg (by simp [h2]), if_neg (by simp [h1]), if_neg (by simp [h2])]
      exact ev_pos rfl (ev_pos (by simp) (subset_loop (PR a).1 (PR b).1 (PR_len a) (PR_len b) (PR a).1.length 0 (by omega)))
    · rw [if_neg (by simp [h1]), if_pos h2, if_neg (by simp [h1]), if_pos h2]
      exact ev_neg h2 (Ev.now _)
  · rw [if_pos h1, if_pos h1]
    exact ev_neg h1 (Ev.now _)
theorem has_ev (s f : ByteArray) : Ev (fun k => feature_Has.f k s f) (HS s f) := by
  unfold feature_Has.f HS
  refine Ev.bind (parse_ev s) ?_
  by_cases h : (PR s).2 = 0
  · refine ev_pos h (Ev.bind (contains_ev _ f (by have := PR_len s; omega)) (ev_now ?_))
    simp [h]
  · refine ev_neg h (ev_now ?_)
    simp [h]
/-! ### the examples -/
theorem awake_fm : FM [(⟨#[98]⟩ : ByteArray), (⟨#[97]⟩ : ByteArray), (⟨#[98]⟩ : ByteArray)] = (⟨#[124, 97, 124, 98, 124]⟩, 0) := by decide +kernel
theorem awake_pr : PR (⟨#[124]⟩ : ByteArray) = ([], 0) := by decide +kernel
theorem awake_un : UN (⟨#[124, 97, 124]⟩ : ByteArray) (⟨#[124, 98, 124]⟩ : ByteArray) = (⟨#[124, 97, 124, 98, 124]⟩, 0) := by decide +kernel
theorem awake_ev : Ev (fun k => corporalaw05_awake.f k) true := by
  unfold corporalaw05_awake.f
  refine Ev.bind (format_ev _ (by simp)) (Ev.bind (parse_ev _) (Ev.bind (union_ev _ _) ?_))
  rw [awake_fm, awake_pr, awake_un]
  have e : (⟨#[124, 97, 124, 98, 124]⟩ : ByteArray).toList = ([124, 97, 124, 98, 124] : List UInt8) := by rw [toList_bl]; rfl
  exact ev_pos e (ev_pos rfl (ev_pos rfl (ev_pos rfl (ev_pos e (ev_now rfl)))))
end Go.Proofs.Ytcgglamgemgeiaa.Q
/- PureFeatureRoundTrips -/
namespace Go.Proofs.Ytcgglamgemgeiaa.Pure
open Go.RowKit Go.Lib Go.Proofs.Ytcgglamgemgeiaa.Q Go.Proofs.YtcgglamgemgeiaaW.PrintWords Go.Proofs.YtcgglamgemgeiaaW.PrintLast
/-- The list with the places i and n - 1 - i swapped. -/
theorem swap_mem {l : List ByteArray} {i j : Nat} (hi : i < l.length) (hj : j < l.length) (x : ByteArray) : x ∈ (l.set i l[j]).set j l[i] ↔ x ∈ l := by
  simp only [List.mem_iff_getElem?]
  have g : ∀ k, ((l.set i l[j]).set j l[i])[k]? = if k = j then some l[i] else if k = i then some l[j] else l[k]? := fun k => by
    by_cases h1 : k = j
    · subst h1; rw [if_pos rfl, List.getElem?_set_self (by rw [List.length_set]; exact hj)]
    · rw [if_neg h1, List.getElem?_set_ne (fun e => h1 e.symm)]
      by_cases h2 : k = i
      · subst h2; rw [if_pos rfl, List.getElem?_set_self hi]
      · rw [if_neg h2, List.getElem?_set_ne (fun e => h2 e.symm)]
  constructor
  · rintro ⟨k, hk⟩
    rw [g] at hk
    by_cases h1 : k = j
    · rw [if_pos h1] at hk; exact ⟨i, by rw [List.getElem?_eq_getElem hi]; exact hk⟩
    · rw [if_neg h1] at hk
      by_cases h2 : k = i
      · rw [if_pos h2] at hk; exact ⟨j, by rw [List.getElem?_eq_getElem hj]; exact hk⟩
      · rw [if_neg h2] at hk; exact ⟨k, hk⟩
  · rintro ⟨k, hk⟩
    by_cases h1 : k = j
    · refine ⟨i, ?_⟩
      rw [g]
      subst h1
      rw [List.getElem?_eq_getElem hj] at hk
      by_cases h2 : i = k
      · subst h2; rw [if_pos rfl]; exact hk
      · rw [if_neg h2, if_pos rfl]; exact hk
    · by_cases h2 : k = i
      · refine ⟨j, ?_⟩
        rw [g, if_pos rfl]
        subst h2
        rw [List.getElem?_eq_getElem hi] at hk; exact hk
      · exact ⟨k, by rw [g, if_neg h1, if_neg h2]; exact hk⟩
theorem rt_l1 (s : ByteArray) (l : List ByteArray) (hp : PR s = (l, 0)) (turn : Int) : ∀ (d i : Nat) (m : List ByteArray), i + d = m.length / 2 → m.length ≤ 240 → (∀ x, x ∈ m ↔ x ∈ l) →
    Ev (fun k => corporalaw05_FeatureRoundTrips.l1 k s m (i : Int)) true := by
  intro d
  induction d with
  | zero =>
    intro i m hd hm hx
    refine Ev.step (fun k => by rw [corporalaw05_FeatureRoundTrips.l1]) ?_
    have e : wrap64 ((m.length : Int) / 2) = ((m.length / 2 : Nat) : Int) := by unfold wrap64; omega
    rw [e]
    refine ev_neg (by omega) (Ev.bind (format_ev m (by omega)) ?_)
    rw [FM_same hp hx]
    exact ev_pos rfl (ev_pos rfl (Ev.bind awake_ev (ev_now rfl)))
  | succ d ih =>
    intro i m hd hm hx
    refine Ev.step (fun k => by rw [corporalaw05_FeatureRoundTrips.l1]) ?_
    have e : wrap64 ((m.length : Int) / 2) = ((m.length / 2 : Nat) : Int) := by unfold wrap64; omega
    have e1 : wrap64 ((m.length : Int) - 1) = ((m.length - 1 : Nat) : Int) := by unfold wrap64; omega
    have e2 : wrap64 (((m.length - 1 : Nat) : Int) - (i : Int)) = ((m.length - 1 - i : Nat) : Int) := by unfold wrap64; omega
    rw [e, e1, e2, wrap_up i (by omega)]
    refine ev_pos (by omega) (ev_pos (by omega) (ev_pos (by omega) (ev_pos (by omega) (ev_pos (by omega) ?_))))
    have hi : i < m.length := by omega
    have hj : m.length - 1 - i < m.length := by omega
    rw [rd_nat hi, rd_nat hj, Int.toNat_natCast, Int.toNat_natCast]
    refine ih (i + 1) _ (by rw [List.length_set, List.length_set]; omega) (by rw [List.length_set, List.length_set]; exact hm) (fun x => ?_)
    rw [swap_mem hi hj, hx]
theorem rt_l0 (s : ByteArray) (l : List ByteArray) (hp : PR s = (l, 0)) (hl : l.length ≤ 120) (turn : Int) (ht : 0 ≤ turn ∧ turn ≤ 100) : ∀ (d i : Nat) (m : List ByteArray), i + d = l.length → m.length = l.length + i → (∀ x, x ∈ m ↔ x ∈ l) →
    Ev (fun k => corporalaw05_FeatureRoundTrips.l0 k s turn l m (l.length : Int) (i : Int)) true := by
  intro d
  induction d with
  | zero =>
    intro i m hd hm hx
    refine Ev.step (fun k => by rw [corporalaw05_FeatureRoundTrips.l0]) (ev_neg (by omega) ?_)
    exact rt_l1 s l hp turn (m.length / 2) 0 m (by omega) (by omega) hx
  | succ d ih =>
    intro i m hd hm hx
    refine Ev.step (fun k => by rw [corporalaw05_FeatureRoundTrips.l0]) (ev_pos (by omega) (ev_neg (by omega) ?_))
    have e : wrap64 ((i : Int) + turn) = ((i + turn.toNat : Nat) : Int) := by unfold wrap64; omega
    have e2 : Int.tmod ((i + turn.toNat : Nat) : Int) (l.length : Int) = (((i + turn.toNat) % l.length : Nat) : Int) := by
      rw [Int.ofNat_tmod]
    rw [e, e2, wrap_up i (by omega)]
    have hlt : (i + turn.toNat) % l.length < l.length := Nat.mod_lt _ (by omega)
    refine ev_pos (by omega) (ev_pos (by omega) (ev_pos (by omega) ?_))
    rw [rd_nat hlt]
    refine ih (i + 1) _ (by omega) (by rw [List.length_append, List.length_singleton]; omega) (fun x => ?_)
    rw [List.mem_append, List.mem_singleton, hx]
    exact ⟨fun h => h.elim id (fun e => e ▸ List.getElem_mem hlt), .inl⟩
theorem FeatureRoundTrips : corporalaw05_FeatureRoundTrips.Pure := by
  intro s turn _ _
  refine Ev.rounds (g := fun k => corporalaw05_FeatureRoundTrips.f k s turn) ?_
  unfold corporalaw05_FeatureRoundTrips.f
  refine Ev.bind (parse_ev s) ?_
  have yes : ∀ l m, Ev (fun k => corporalaw05_FeatureRoundTrips.j0 k s turn l true m) true := fun l m => Ev.step (fun k => by rw [corporalaw05_FeatureRoundTrips.j0]) (ev_pos rfl (Ev.now _))
  by_cases h1 : (PR s).2 = 0
  · refine ev_pos h1 ?_
    by_cases h2 : turn < 0
    · exact ev_pos h2 (yes _ _)
    · refine ev_neg h2 ?_
      by_cases h3 : turn > 100
      · rw [decide_eq_true h3]; exact yes _ _
      · rw [decide_eq_false h3]
        have hl := PR_len s
        refine Ev.step (fun k => by rw [corporalaw05_FeatureRoundTrips.j0]) (ev_neg (by simp) (ev_pos (show ([] : List ByteArray).length + (PR s).1.length < 8796093022208 by simp; omega) ?_))
        rw [List.nil_append]
        exact rt_l0 s (PR s).1 (PR_eta h1) hl turn (by omega) (PR s).1.length 0 _ (by omega) (by omega) (fun _ => Iff.rfl)
  · exact ev_neg h1 (yes _ _)
end Go.Proofs.Ytcgglamgemgeiaa.Pure
/- LawFeatureRoundTrips -/
namespace Go.Proofs.Ytcgglamgemgeiaa.featureRoundTrips
open Go.ChangeShapes Go.WideShapes Go.ChangeAt Go.RowKit
open Go.ChangeMaps (open_string shut_string)
set_option linter.unusedVariables false
theorem own : ownKnob Try.prog.godebug = none := by kernel_rfl
set_option maxRecDepth 100000 in
theorem lifted (os : Os) (started : os.Started) (H : Type) (enc : TypeId × Value → H) :
    ReturnsInHanded {} Try.checked os 5 .any (Rows.featureRoundTripsSpec.pre6 enc Try.prog Try.f5 Rows.featureRoundTripsRow.domain false) (Rows.featureRoundTripsSpec.post enc Try.prog Try.f5 false true false false) := by
  refine returnsInHanded_of_change_sized (C := Try.checked) own started (by kernel_rfl) Try.func5
    (ChangeSpec.witness6 (enc := enc) (C := Try.checked) false ⟨#[], #[.string ByteArray.empty, .int .i64 0], []⟩ 8 (by kernel_rfl) (by kernel_rfl) (by kernel_rfl) (by kernel_rfl)) ?_
  intro W base args ds gs before hval0 hW hcnd hsz0 _
  have hsz : (DataW.weightsEach Try.prog (Try.f5.params.toList ++ Rows.featureRoundTripsSpec.plain.varTypes Try.prog) (ds ++ gs)).all (· ≤ reachBytes) = true := hsz0
  have hval : ∀ (j : Nat) t v, Try.f5.params[j]? = some t → args[j]? = some v → Value.okWide Try.prog W .any base t v := hval0
  have hW' := hW
  obtain ⟨p, q, hA0, hV, rfl, hfz, hnd⟩ := hW
  have hA : DataW.TrodAll enc Try.prog W 0 (fun _ => true) true Try.f5.params.toList args.toList ds p := hA0
  rw [Try.params5] at hA hval hsz
  obtain ⟨v0, vs0, d0, ds0, p0, q0, hargs, rfl, rfl, h0, r0⟩ := trodAll_cons hA
  obtain ⟨v1, vs1, d1, ds1, p1, q1, rfl, rfl, rfl, h1, r1⟩ := trodAll_cons r0
  obtain ⟨rfl, rfl, rfl⟩ := trodAll_nil r1
  obtain rfl : args = #[v0, v1] := by cases args; simp_all
  obtain ⟨rfl, rfl⟩ := trodVars_none hV
  obtain ⟨a0, rfl, rfl, rfl, y0⟩ := open_string Try.underlying9 (hval 0 9 v0 rfl rfl) h0
  have w0 : a0.size ≤ 140737488351232 := by
    have z := sized_string hsz (j := 0) (t := 9) rfl rfl
    rw [Array.length_toList] at z
    exact z
  obtain ⟨a1, rfl, rfl, rfl, w1⟩ := open_int Try.underlying3 (hval 1 3 v1 rfl rfl) h1
  clear hA0 hval0 hsz0 hsz
  refine (Q.corporalaw05_FeatureRoundTrips.walk Pure.FeatureRoundTrips a0 a1 W w0 w1).mono fun e W' ⟨he, bel⟩ => ?_
  subst he
  exact ⟨_, rfl, _, _, _, [], _, [], hW', trodAll_mk1 (shut_bool Try.underlying4 _), (trodAll_cons_mk (shut_string Try.underlying9 y0) (trodAll_cons_mk (shut_int Try.underlying3 w1) trodAll_mk0)), rfl, bel.frame _, fun h => by cases h⟩
theorem over : Rows.featureRoundTripsRow.holds Try.pinned (OpenSpec.ofChange Rows.featureRoundTripsSpec) :=
  OpenClaim.holds_of_wide 5 Try.f5 rfl rfl rfl rfl rfl rfl rfl ⟨rfl, rfl, rfl, rfl, rfl⟩ rfl rfl rfl rfl rfl (by kernel_rfl) Try.func5 (by kernel_rfl)
    (of_decide_eq_true (by kernel_rfl)) (by unfold Func.isWrapper; first | (rw [if_pos (by decide +kernel)]; kernel_rfl) | (rw [if_neg (by decide +kernel)]; exact ⟨rfl, rfl⟩))
    (fun os started H enc _ => lifted os started H enc)
theorem proved : Rows.FeatureRoundTripsSaid := over
end Go.Proofs.Ytcgglamgemgeiaa.featureRoundTrips
namespace Go.Proofs.Ytcgglamgemgeiaa
/-- The row, under a short name, for the claim. -/
theorem featureRoundTrips_holds : Rows.FeatureRoundTripsSaid := featureRoundTrips.proved
end Go.Proofs.Ytcgglamgemgeiaa
