/- The law FeatureCombines holds of every two strings: union, intersection and inclusion are the reference's, or their errors are; no condition. -/
import Derived.Laws.Cover1
import Derived.Test.YtcgglamgemgeiaaMCmb1
import Derived.Test.YtcgglamgemgeiaaMCmb2
import Derived.Lib.Bytealg
import Derived.Test.YtcgglamgemgeiaaRows
import Derived.WalkKit
import Derived.ProofKit
import Derived.OpenShut
import Derived.ShutString
import Derived.ChangeOld
import Derived.Below
import Derived.SizedLaws
set_option linter.unusedVariables false
set_option linter.unusedSimpArgs false
set_option linter.unusedSectionVars false
/- FCorporaref05Intersect -/
namespace Go.Proofs.Ytcgglamgemgeiaa.Q
open Go.RowKit Go.Proofs.YtcgglamgemgeiaaW.PrintWords Go.Proofs.YtcgglamgemgeiaaW.PrintLast Go.Proofs.YtcgglamgemgeiaaW.PrintMore
attribute [local go_sem] max2_int min2_int max_two min_two max_three min_three max_four min_four   -- for this text's walks alone
set_option linter.unusedVariables false
set_option linter.unusedSimpArgs false

/-! ### corporaref05_Intersect: function 23 -/
def corporaref05_Intersect.l0 : Nat → List ByteArray → List ByteArray → List ByteArray → Int → Int → Option (ByteArray × Int)
  | 0, _, _, _, _, _ => none
  | k + 1, x8, x9, x28, x29, x30 => if x30 < x29 then (if 0 ≤ x30 then (if x30 < (x28.length : Int) then ((corporaref05_member.f k x8 (rdOf ByteArray.empty x28 x30)).bind fun t408 => (if t408 = true then (if x9.length < 8796093022208 then (corporaref05_Intersect.l0 k x8 (x9 ++ [rdOf ByteArray.empty x28 x30]) x28 x29 (wrap64 (x30 + 1))) else (none)) else (corporaref05_Intersect.l0 k x8 x9 x28 x29 (wrap64 (x30 + 1))))) else (none)) else (none)) else ((corporaref05_text.f k x9).bind fun t412 => (some (t412, 0)))
def corporaref05_Intersect.f (k : Nat) (a0 : ByteArray) (a1 : ByteArray) : Option (ByteArray × Int) := (corporaref05_Parse.f k a0).bind fun bt399 => (if bt399.2 = 0 then ((corporaref05_Parse.f k a1).bind fun bt403 => (if bt403.2 = 0 then (corporaref05_Intersect.l0 k bt403.1 ([] : List ByteArray) bt399.1 (bt399.1.length : Int) 0) else (some ((⟨#[]⟩ : ByteArray), bt403.2)))) else (some ((⟨#[]⟩ : ByteArray), bt399.2)))
theorem corporaref05_Intersect.mono_l : ∀ k, (∀ y0 y1 y2 y3 y4, LeO (corporaref05_Intersect.l0 k y0 y1 y2 y3 y4) (corporaref05_Intersect.l0 (k + 1) y0 y1 y2 y3 y4))
  | 0 => fun _ _ _ _ _ r h => by simp [corporaref05_Intersect.l0] at h
  | k + 1 => by
    have ih0 := corporaref05_Intersect.mono_l k
    · intro y0 y1 y2 y3 y4
      unfold corporaref05_Intersect.l0
      repeat' first
      | (with_reducible exact ih0 _ _ _ _ _)
      | (with_reducible exact corporaref05_Parse.mono _ _)
      | (with_reducible exact corporaref05_member.mono _ _ _)
      | (with_reducible exact corporaref05_text.mono _ _)
      | (with_reducible exact LeO.refl _)
      | (with_reducible exact LeO.none _)
      | (with_reducible refine LeO.ite ?_ ?_)
      | (with_reducible refine LeO.bind ?_ (fun _ => ?_))
      | exact ih0 _ _ _ _ _
      | exact corporaref05_Parse.mono _ _
      | exact corporaref05_member.mono _ _ _
      | exact corporaref05_text.mono _ _
      | exact LeO.none _
      | refine LeO.ite ?_ ?_
      | refine LeO.bind ?_ (fun _ => ?_)
theorem corporaref05_Intersect.mono : ∀ a0 a1 k, LeO (corporaref05_Intersect.f k a0 a1) (corporaref05_Intersect.f (k + 1) a0 a1) := by
  intro a0 a1 k
  have ih0 := corporaref05_Intersect.mono_l k
  unfold corporaref05_Intersect.f
  repeat' first
      | (with_reducible exact ih0 _ _ _ _ _)
      | (with_reducible exact corporaref05_Parse.mono _ _)
      | (with_reducible exact corporaref05_member.mono _ _ _)
      | (with_reducible exact corporaref05_text.mono _ _)
      | (with_reducible exact LeO.refl _)
      | (with_reducible exact LeO.none _)
      | (with_reducible refine LeO.ite ?_ ?_)
      | (with_reducible refine LeO.bind ?_ (fun _ => ?_))
      | exact ih0 _ _ _ _ _
      | exact corporaref05_Parse.mono _ _
      | exact corporaref05_member.mono _ _ _
      | exact corporaref05_text.mono _ _
      | exact LeO.none _
      | refine LeO.ite ?_ ?_
      | refine LeO.bind ?_ (fun _ => ?_)
set_option maxHeartbeats 8000000 in
set_option maxRecDepth 100000 in
theorem corporaref05_Intersect.calls (k : Nat) (a0 : ByteArray) (a1 : ByteArray) (r1 : ByteArray) (r2 : Int) (w : World) (h : corporaref05_Intersect.f k a0 a1 = some (r1, r2)) :
    Calls Try.prog 23 #[.string a0, .string a1] w fun e w' => e = .returned (.tuple #[.string r1, .int .i64 r2]) ∧ Below w.heap.size w w' := by
  have HB := Aside0.mk (Below.refl w.heap.size w)
  have H : ((corporaref05_Parse.f k a0).bind fun bt399 => (if bt399.2 = 0 then ((corporaref05_Parse.f k a1).bind fun bt403 => (if bt403.2 = 0 then (corporaref05_Intersect.l0 k bt403.1 ([] : List ByteArray) bt399.1 (bt399.1.length : Int) 0) else (some ((⟨#[]⟩ : ByteArray), bt403.2)))) else (some ((⟨#[]⟩ : ByteArray), bt399.2)))) = some (r1, r2) := h
  clear h
  replace H := Option.bind_eq_some_iff.mp H
  obtain ⟨⟨t399, t400⟩, A30, H⟩ := H
  replace H : (if t400 = 0 then ((corporaref05_Parse.f k a1).bind fun bt403 => (if bt403.2 = 0 then (corporaref05_Intersect.l0 k bt403.1 ([] : List ByteArray) t399 (t399.length : Int) 0) else (some ((⟨#[]⟩ : ByteArray), bt403.2)))) else (some ((⟨#[]⟩ : ByteArray), t400))) = some (r1, r2) := H
  have A3 := Aside0.mk A30
  clear A30
  by_cases c4 : t400 = 0
  · rw [if_pos c4] at H
    have c4b0 : (t400 == 0) = true := beq_iff_eq.mpr c4
    have c4b1 : (t400 != 0) = false := bne_eq_false_iff_eq.mpr c4
    clear c4
    replace H := Option.bind_eq_some_iff.mp H
    obtain ⟨⟨t403, t404⟩, A50, H⟩ := H
    replace H : (if t404 = 0 then (corporaref05_Intersect.l0 k t403 ([] : List ByteArray) t399 (t399.length : Int) 0) else (some ((⟨#[]⟩ : ByteArray), t404))) = some (r1, r2) := H
    have A5 := Aside0.mk A50
    clear A50
    by_cases c6 : t404 = 0
    · rw [if_pos c6] at H
      have c6b0 : (t404 == 0) = true := beq_iff_eq.mpr c6
      have c6b1 : (t404 != 0) = false := bne_eq_false_iff_eq.mpr c6
      clear c6
      have H' := Aside0.mk H
      clear H
      go_enter Try.func23, Try.ntmps23
      go_wp2_with (first | ((with_reducible refine gate_callee (f := 13) rfl ?_); refine goesL_ (some 14) rfl rfl Try.func13 (by kernel_rfl) rfl #[.string a0] rfl (by (try simp only [List.map_toArray, List.map_cons, List.map_nil]); first | done | rfl | (simp only [List.length_drop, List.length_take]; rfl)) ?_; (with_reducible refine (corporaref05_Parse.calls k a0 t399 t400 _ A3.out).mono ?_); rintro e w7 ⟨v401, rfl, ho0, hb⟩; refine ⟨_, rfl, ?_⟩; have n0_ := Aside0.mk (Kd.R_lower ho0 (below_size (by repeat (first | (with_reducible first | exact HB.out | apply below_alloc | apply pw_below_drewN | apply below_drew1) | exact HB.out)))); have n1_ := Aside0.mk (below_step (by repeat (first | (with_reducible first | exact HB.out | apply below_alloc | apply pw_below_drewN | apply below_drew1) | exact HB.out)) hb); clear HB; have HO402 := n0_; have HB := n1_; clear n0_ n1_; (try clear hb); (try clear hb2); (try clear hk); (try clear hi); (try clear ho0)) | ((with_reducible refine gate_callee (f := 13) rfl ?_); refine goesL_ (some 22) rfl rfl Try.func13 (by kernel_rfl) rfl #[.string a1] rfl (by (try simp only [List.map_toArray, List.map_cons, List.map_nil]); first | done | rfl | (simp only [List.length_drop, List.length_take]; rfl)) ?_; (with_reducible refine (corporaref05_Parse.calls k a1 t403 t404 _ A5.out).mono ?_); rintro e w8 ⟨v405, rfl, ho0, hb⟩; refine ⟨_, rfl, ?_⟩; have n0_ := Aside0.mk (Kd.R_elder' (by (with_reducible repeat (first | apply Kd.R_alloc | apply Kd.R_drewN | apply Kd.R_drew)); exact HO402.out) (Kd.R_base ho0) hb); have n1_ := Aside0.mk (Kd.R_lower (Kd.R_new' ho0 (Kd.R_lt (by (with_reducible repeat (first | apply Kd.R_alloc | apply Kd.R_drewN | apply Kd.R_drew)); exact HO402.out))) (below_size (by repeat (first | (with_reducible first | exact HB.out | apply below_alloc | apply pw_below_drewN | apply below_drew1) | exact HB.out)))); have n2_ := Aside0.mk (below_step (by repeat (first | (with_reducible first | exact HB.out | apply below_alloc | apply pw_below_drewN | apply below_drew1) | exact HB.out)) hb); clear HO402; clear HB; have HO402 := n0_; have HO406 := n1_; have HB := n2_; clear n0_ n1_ n2_; (try clear hb); (try clear hb2); (try clear hk); (try clear hi); (try clear ho0); obtain ⟨Ao9, co9, eo9⟩ := Kd.R_slice HO402.out; subst eo9))
      go_loopg [9, 30] k (fun kq v9 v30 w' => ∃ (x9_1 : List ByteArray) (x30_1 : Int), v30 = .int .i64 x30_1 ∧ Aside0 (corporaref05_Intersect.l0 kq t403 x9_1 t399 (t399.length : Int) x30_1 = some (r1, r2)) ∧ Aside0 (kq ≤ k) ∧ Aside0 (Kd.R Kd.string 9 w' w.heap.size (fun k_ => some k_ ≠ (v9 : Value).ownBlock ∧ some k_ ≠ ((.slice Ao9 t399.length co9) : Value).ownBlock) v405 t403) ∧ Aside0 (Kd.R Kd.string 9 w' w.heap.size (fun k_ => some k_ ≠ (v405 : Value).ownBlock ∧ some k_ ≠ ((.slice Ao9 t399.length co9) : Value).ownBlock) v9 x9_1) ∧ Aside0 (Kd.R Kd.string 9 w' w.heap.size (fun k_ => some k_ ≠ (v405 : Value).ownBlock ∧ some k_ ≠ (v9 : Value).ownBlock) (.slice Ao9 t399.length co9) t399) ∧ Aside0 (Below w.heap.size w w'))
      case atStart => exact ⟨(([] : List ByteArray)), (0), (by first | rfl | (simp; done) | (simp [*]; done)), H', ⟨Nat.le_refl _⟩, ⟨by (with_reducible repeat (first | apply Kd.R_alloc | apply Kd.R_drewN | apply Kd.R_drew)); exact Kd.R_mono HO406.out (fun _ hk => ⟨(by simp [Value.ownBlock]), hk.2⟩)⟩, ⟨by first | exact Kd.R_nil _ _ _ _ _ | exact Kd.N_nil _ _ _ _ _ | exact Kd.V_nil _ _ _ _ _ | exact Kd.Q_nil _ _ _ _ _ | exact Kd.S_nil _ _ _ _ _⟩, ⟨by (with_reducible repeat (first | apply Kd.R_alloc | apply Kd.R_drewN | apply Kd.R_drew)); exact Kd.R_mono HO402.out (fun _ hk => ⟨hk.2, (by simp [Value.ownBlock])⟩)⟩, ⟨by repeat (first | (with_reducible first | exact HB.out | apply below_alloc | apply pw_below_drewN | apply below_drew1) | exact HB.out)⟩⟩
      case round =>
        clear H'
        try clear c1
        try clear c2
        try clear p2
        try clear c4
        try clear c4b0
        try clear c4b1
        try clear c6
        try clear c6b0
        try clear c6b1
        obtain ⟨x9_1, x30_1, rfl, HA, HK1, HO_8, HO_9, HO_28, HB⟩ := hrel
        cases gk with
        | zero => exact absurd HA.out (by simp [corporaref05_Intersect.l0])
        | succ k1 =>
          have H := HA.out
          clear HA
          simp only [corporaref05_Intersect.l0] at H
          by_cases c10 : x30_1 < (t399.length : Int)
          · rw [if_pos c10] at H
            have c10b0 : decide (x30_1 < (t399.length : Int)) = true := decide_eq_true c10
            clear c10
            by_cases c11 : 0 ≤ x30_1
            · rw [if_pos c11] at H
              have c11b0 : decide (0 ≤ x30_1) = true := decide_eq_true c11
              clear c11
              by_cases c12 : x30_1 < (t399.length : Int)
              · rw [if_pos c12] at H
                have c12b0 : decide (x30_1 < (t399.length : Int)) = true := decide_eq_true c12
                clear c12
                replace H := Option.bind_eq_some_iff.mp H
                obtain ⟨t408, A130, H⟩ := H
                replace H : (if t408 = true then (if x9_1.length < 8796093022208 then (corporaref05_Intersect.l0 k1 t403 (x9_1 ++ [rdOf ByteArray.empty t399 x30_1]) t399 (t399.length : Int) (wrap64 (x30_1 + 1))) else (none)) else (corporaref05_Intersect.l0 k1 t403 x9_1 t399 (t399.length : Int) (wrap64 (x30_1 + 1)))) = some (r1, r2) := H
                have A13 := Aside0.mk A130
                clear A130
                by_cases c14 : t408 = true
                · subst c14
                  have H1 : (if x9_1.length < 8796093022208 then (corporaref05_Intersect.l0 k1 t403 (x9_1 ++ [rdOf ByteArray.empty t399 x30_1]) t399 (t399.length : Int) (wrap64 (x30_1 + 1))) else (none)) = some (r1, r2) := by rw [if_pos rfl] at H; exact H
                  clear H
                  have H := H1
                  clear H1
                  by_cases c15 : x9_1.length < 8796093022208
                  · rw [if_pos c15] at H
                    have LMc15 := Aside0.mk c15
                    clear c15
                    obtain ⟨y409, hy409⟩ : ∃ y_ : List ByteArray, y_ = (x9_1 ++ [rdOf ByteArray.empty t399 x30_1]) := ⟨_, rfl⟩
                    replace H : (corporaref05_Intersect.l0 k1 t403 y409 t399 (t399.length : Int) (wrap64 (x30_1 + 1))) = some (r1, r2) := by first | (rw [hy409]; with_reducible exact H) | (have H2_ := (Option.bind_some _ _).symm.trans H; rw [hy409]; with_reducible exact H2_) | (have H2_ := (Option.bind_some _ _).symm.trans H; with_reducible exact H2_) | with_reducible exact H | (rw [hy409]; exact H) | exact H
                    have Ny409 := Aside0.mk hy409
                    clear hy409
                    have H' := Aside0.mk H
                    clear H
                    have p407 : 0 ≤ (x30_1 : Int) := of_decide_eq_true (by first | (with_reducible assumption) | assumption)
                    have q407 : x30_1 < (t399.length : Int) := of_decide_eq_true (by first | (with_reducible assumption) | assumption)
                    obtain ⟨ad407, e407, hx407_0⟩ := Kd.at_string (Kd.R_reads' HO_28.out).2.2 x30_1 p407 q407
                    cases e407
                    replace p407 := eq_true p407
                    replace q407 := eq_true q407
                    obtain ⟨Ao16, co16, eo16⟩ := Kd.R_slice HO_8.out
                    subst eo16
                    go_wp2_with (first | ((with_reducible refine gate_callee (f := 34) rfl ?_); refine goesL_ (some 36) rfl rfl Try.func34 (by kernel_rfl) rfl #[.slice Ao16 t403.length co16, .string (rdOf ByteArray.empty t399 x30_1)] rfl (by (try simp only [List.map_toArray, List.map_cons, List.map_nil]); first | done | rfl | (simp only [List.length_drop, List.length_take]; rfl)) ?_; (with_reducible refine (corporaref05_member.calls k1 _ _ t403 (rdOf ByteArray.empty t399 x30_1) true _ ?side1 ?side2 A13.out).mono ?_); (case side1 => repeat (first | exact (Kd.R_reads' HO_8.out).2.2 | (with_reducible refine Kd.C_alloc ?_ _) | (with_reducible refine Kd.C_drewN ?_ _) | (with_reducible refine Kd.C_drew ?_))); (case side2 => exact (Kd.R_reads' HO_8.out).2.1); rintro e w' ⟨rfl, ⟨nd, rfl⟩⟩; refine ⟨_, rfl, ?_⟩) | ((with_reducible refine gate_builtin (b := .append) (xs := #[.tmp 37, .tmp 39]) rfl ?_); at_builtin; refine Kd.R_append Kd.string (w0 := w) w.heap.size rfl (.tmp 37) (.tmp 39) 23 9 (.string ⟨#[]⟩) 16 rfl Try.underlying23 info9 rfl (by decide) (by omega) u9 x9_1 (rdOf ByteArray.empty t399 x30_1) [.string (rdOf ByteArray.empty t399 x30_1)] (fun k_ => some k_ ≠ (.slice Ao16 t403.length co16 : Value).ownBlock ∧ some k_ ≠ (.slice (some ad407) t399.length co9 : Value).ownBlock) (fun _ => False) rfl rfl ?aP (fun _ hk => hk.elim) ?aF ?aO ?aB ?aS ?aL ?_; (case aP => exact rfl); (case aB => exact (by repeat (first | (with_reducible first | exact HB.out | apply below_alloc | apply pw_below_drewN | apply below_drew1) | exact HB.out))); (case aF => exact (fun k_ hk => ⟨Kd.fresh' (Kd.R_lt (by (with_reducible repeat (first | apply Kd.R_alloc | apply Kd.R_drewN | apply Kd.R_drew)); exact HO_8.out)) k_ hk, Kd.fresh' (Kd.R_lt (by (with_reducible repeat (first | apply Kd.R_alloc | apply Kd.R_drewN | apply Kd.R_drew)); exact HO_28.out)) k_ hk⟩)); (case aO => exact (by (with_reducible repeat (first | apply Kd.R_alloc | apply Kd.R_drewN | apply Kd.R_drew)); exact HO_9.out)); (case aS => exact (below_size (by repeat (first | (with_reducible first | exact HB.out | apply below_alloc | apply pw_below_drewN | apply below_drew1) | exact HB.out)))); (case aL => have := LMc15.out; omega); intro v410 w17 ho hb hg hat; rw [← Ny409.out] at ho; have n0_ := Aside0.mk (Kd.R_after (ok := (fun k_ => some k_ ≠ (.slice (some ad407) t399.length co9 : Value).ownBlock)) (by (with_reducible repeat (first | apply Kd.R_alloc | apply Kd.R_drewN | apply Kd.R_drew)); exact Kd.R_mono HO_8.out (fun _ hk => ⟨hk.2, hk.1⟩)) hg hat); have n1_ := Aside0.mk (Kd.R_after (ok := (fun k_ => some k_ ≠ (.slice Ao16 t403.length co16 : Value).ownBlock)) (by (with_reducible repeat (first | apply Kd.R_alloc | apply Kd.R_drewN | apply Kd.R_drew)); exact HO_28.out) hg hat); have n2_ := Aside0.mk (hb); have n3_ := Aside0.mk (ho); clear HO_8; clear HO_28; clear HB; clear HO_9; have HO_8 := n0_; have HO_28 := n1_; have HB := n2_; have HO411 := n3_; clear n0_ n1_ n2_ n3_; clear ho hb hg hat))
                    go_roundg k1
                    case measure => have := HK1.out; omega
                    case rel => exact ⟨(y409), (wrap64 (x30_1 + 1)), (by first | rfl | (simp; done) | (simp [*]; done)), H', ⟨by have := HK1.out; omega⟩, ⟨by (with_reducible repeat (first | apply Kd.R_alloc | apply Kd.R_drewN | apply Kd.R_drew)); exact Kd.R_mono HO_8.out (fun _ hk => ⟨hk.2, hk.1⟩)⟩, ⟨by (with_reducible repeat (first | apply Kd.R_alloc | apply Kd.R_drewN | apply Kd.R_drew)); exact HO411.out⟩, ⟨by (with_reducible repeat (first | apply Kd.R_alloc | apply Kd.R_drewN | apply Kd.R_drew)); exact HO_28.out⟩, ⟨by repeat (first | (with_reducible first | exact HB.out | apply below_alloc | apply pw_below_drewN | apply below_drew1) | exact HB.out)⟩⟩
                  · rw [if_neg c15] at H
                    exact absurd H (by simp)
                · replace c14 := Bool.eq_false_iff.mpr c14
                  subst c14
                  have H1 : (corporaref05_Intersect.l0 k1 t403 x9_1 t399 (t399.length : Int) (wrap64 (x30_1 + 1))) = some (r1, r2) := by rw [if_neg (show ¬ (false = true) by decide)] at H; exact H
                  clear H
                  have H := H1
                  clear H1
                  have H' := Aside0.mk H
                  clear H
                  have p407 : 0 ≤ (x30_1 : Int) := of_decide_eq_true (by first | (with_reducible assumption) | assumption)
                  have q407 : x30_1 < (t399.length : Int) := of_decide_eq_true (by first | (with_reducible assumption) | assumption)
                  obtain ⟨ad407, e407, hx407_0⟩ := Kd.at_string (Kd.R_reads' HO_28.out).2.2 x30_1 p407 q407
                  cases e407
                  replace p407 := eq_true p407
                  replace q407 := eq_true q407
                  obtain ⟨Ao18, co18, eo18⟩ := Kd.R_slice HO_8.out
                  subst eo18
                  go_wp2_with (first | ((with_reducible refine gate_callee (f := 34) rfl ?_); refine goesL_ (some 36) rfl rfl Try.func34 (by kernel_rfl) rfl #[.slice Ao18 t403.length co18, .string (rdOf ByteArray.empty t399 x30_1)] rfl (by (try simp only [List.map_toArray, List.map_cons, List.map_nil]); first | done | rfl | (simp only [List.length_drop, List.length_take]; rfl)) ?_; (with_reducible refine (corporaref05_member.calls k1 _ _ t403 (rdOf ByteArray.empty t399 x30_1) false _ ?side1 ?side2 A13.out).mono ?_); (case side1 => repeat (first | exact (Kd.R_reads' HO_8.out).2.2 | (with_reducible refine Kd.C_alloc ?_ _) | (with_reducible refine Kd.C_drewN ?_ _) | (with_reducible refine Kd.C_drew ?_))); (case side2 => exact (Kd.R_reads' HO_8.out).2.1); rintro e w' ⟨rfl, ⟨nd, rfl⟩⟩; refine ⟨_, rfl, ?_⟩))
                  go_roundg k1
                  case measure => have := HK1.out; omega
                  case rel => exact ⟨(x9_1), (wrap64 (x30_1 + 1)), (by first | rfl | (simp; done) | (simp [*]; done)), H', ⟨by have := HK1.out; omega⟩, ⟨by (with_reducible repeat (first | apply Kd.R_alloc | apply Kd.R_drewN | apply Kd.R_drew)); exact HO_8.out⟩, ⟨by (with_reducible repeat (first | apply Kd.R_alloc | apply Kd.R_drewN | apply Kd.R_drew)); exact HO_9.out⟩, ⟨by (with_reducible repeat (first | apply Kd.R_alloc | apply Kd.R_drewN | apply Kd.R_drew)); exact HO_28.out⟩, ⟨by repeat (first | (with_reducible first | exact HB.out | apply below_alloc | apply pw_below_drewN | apply below_drew1) | exact HB.out)⟩⟩
              · rw [if_neg c12] at H
                exact absurd H (by simp)
            · rw [if_neg c11] at H
              exact absurd H (by simp)
          · rw [if_neg c10] at H
            have c10b0 : decide (x30_1 < (t399.length : Int)) = false := decide_eq_false c10
            clear c10
            replace H := Option.bind_eq_some_iff.mp H
            obtain ⟨t412, A190, H⟩ := H
            replace H : (some (t412, 0)) = some (r1, r2) := H
            have A19 := Aside0.mk A190
            clear A190
            simp only [Option.some.injEq, Prod.mk.injEq] at H
            obtain ⟨rfl, rfl⟩ := H
            obtain ⟨Ao20, co20, eo20⟩ := Kd.R_slice HO_9.out
            subst eo20
            go_wp2_with (first | ((with_reducible refine gate_callee (f := 32) rfl ?_); refine goesL_ (some 43) rfl rfl Try.func32 (by kernel_rfl) rfl #[.slice Ao20 x9_1.length co20] rfl (by (try simp only [List.map_toArray, List.map_cons, List.map_nil]); first | done | rfl | (simp only [List.length_drop, List.length_take]; rfl)) ?_; (with_reducible refine (corporaref05_text.calls k1 _ _ x9_1 t412 _ ?side1 ?side2 A19.out).mono ?_); (case side1 => repeat (first | exact (Kd.R_reads' HO_9.out).2.2 | (with_reducible refine Kd.C_alloc ?_ _) | (with_reducible refine Kd.C_drewN ?_ _) | (with_reducible refine Kd.C_drew ?_))); (case side2 => exact (Kd.R_reads' HO_9.out).2.1); rintro e w' ⟨rfl, ⟨nd, rfl⟩⟩; refine ⟨_, rfl, ?_⟩))
            go_ret2
            exact ⟨by first | rfl | (simp [errW_none, errW_some] <;> rfl) | (simp [*, errW_none, errW_some] <;> rfl), by repeat (first | (with_reducible first | exact HB.out | apply below_alloc | apply pw_below_drewN | apply below_drew1) | exact HB.out)⟩
    · rw [if_neg c6] at H
      have c6b0 : (t404 == 0) = false := beq_eq_false_iff_ne.mpr c6
      have c6b1 : (t404 != 0) = true := bne_iff_ne.mpr c6
      simp only [Option.some.injEq, Prod.mk.injEq] at H
      obtain ⟨rfl, rfl⟩ := H
      go_enter Try.func23, Try.ntmps23
      go_wp2_with (first | ((with_reducible refine gate_callee (f := 13) rfl ?_); refine goesL_ (some 14) rfl rfl Try.func13 (by kernel_rfl) rfl #[.string a0] rfl (by (try simp only [List.map_toArray, List.map_cons, List.map_nil]); first | done | rfl | (simp only [List.length_drop, List.length_take]; rfl)) ?_; (with_reducible refine (corporaref05_Parse.calls k a0 t399 t400 _ A3.out).mono ?_); rintro e w21 ⟨v401, rfl, ho0, hb⟩; refine ⟨_, rfl, ?_⟩; have n0_ := Aside0.mk (Kd.R_lower ho0 (below_size (by repeat (first | (with_reducible first | exact HB.out | apply below_alloc | apply pw_below_drewN | apply below_drew1) | exact HB.out)))); have n1_ := Aside0.mk (below_step (by repeat (first | (with_reducible first | exact HB.out | apply below_alloc | apply pw_below_drewN | apply below_drew1) | exact HB.out)) hb); clear HB; have HO402 := n0_; have HB := n1_; clear n0_ n1_; (try clear hb); (try clear hb2); (try clear hk); (try clear hi); (try clear ho0)) | ((with_reducible refine gate_callee (f := 13) rfl ?_); refine goesL_ (some 22) rfl rfl Try.func13 (by kernel_rfl) rfl #[.string a1] rfl (by (try simp only [List.map_toArray, List.map_cons, List.map_nil]); first | done | rfl | (simp only [List.length_drop, List.length_take]; rfl)) ?_; (with_reducible refine (corporaref05_Parse.calls k a1 t403 t404 _ A5.out).mono ?_); rintro e w22 ⟨v405, rfl, ho0, hb⟩; refine ⟨_, rfl, ?_⟩; have n0_ := Aside0.mk (Kd.R_elder' (by (with_reducible repeat (first | apply Kd.R_alloc | apply Kd.R_drewN | apply Kd.R_drew)); exact HO402.out) (Kd.R_base ho0) hb); have n1_ := Aside0.mk (Kd.R_lower (Kd.R_new' ho0 (Kd.R_lt (by (with_reducible repeat (first | apply Kd.R_alloc | apply Kd.R_drewN | apply Kd.R_drew)); exact HO402.out))) (below_size (by repeat (first | (with_reducible first | exact HB.out | apply below_alloc | apply pw_below_drewN | apply below_drew1) | exact HB.out)))); have n2_ := Aside0.mk (below_step (by repeat (first | (with_reducible first | exact HB.out | apply below_alloc | apply pw_below_drewN | apply below_drew1) | exact HB.out)) hb); clear HO402; clear HB; have HO402 := n0_; have HO406 := n1_; have HB := n2_; clear n0_ n1_ n2_; (try clear hb); (try clear hb2); (try clear hk); (try clear hi); (try clear ho0)))
      go_ret2
      exact ⟨by first | rfl | (simp [errW_none, errW_some] <;> rfl) | (simp [*, errW_none, errW_some] <;> rfl), by repeat (first | (with_reducible first | exact HB.out | apply below_alloc | apply pw_below_drewN | apply below_drew1) | exact HB.out)⟩
  · rw [if_neg c4] at H
    have c4b0 : (t400 == 0) = false := beq_eq_false_iff_ne.mpr c4
    have c4b1 : (t400 != 0) = true := bne_iff_ne.mpr c4
    simp only [Option.some.injEq, Prod.mk.injEq] at H
    obtain ⟨rfl, rfl⟩ := H
    go_enter Try.func23, Try.ntmps23
    go_wp2_with (first | ((with_reducible refine gate_callee (f := 13) rfl ?_); refine goesL_ (some 14) rfl rfl Try.func13 (by kernel_rfl) rfl #[.string a0] rfl (by (try simp only [List.map_toArray, List.map_cons, List.map_nil]); first | done | rfl | (simp only [List.length_drop, List.length_take]; rfl)) ?_; (with_reducible refine (corporaref05_Parse.calls k a0 t399 t400 _ A3.out).mono ?_); rintro e w23 ⟨v401, rfl, ho0, hb⟩; refine ⟨_, rfl, ?_⟩; have n0_ := Aside0.mk (Kd.R_lower ho0 (below_size (by repeat (first | (with_reducible first | exact HB.out | apply below_alloc | apply pw_below_drewN | apply below_drew1) | exact HB.out)))); have n1_ := Aside0.mk (below_step (by repeat (first | (with_reducible first | exact HB.out | apply below_alloc | apply pw_below_drewN | apply below_drew1) | exact HB.out)) hb); clear HB; have HO402 := n0_; have HB := n1_; clear n0_ n1_; (try clear hb); (try clear hb2); (try clear hk); (try clear hi); (try clear ho0)))
    go_ret2
    exact ⟨by first | rfl | (simp [errW_none, errW_some] <;> rfl) | (simp [*, errW_none, errW_some] <;> rfl), by repeat (first | (with_reducible first | exact HB.out | apply below_alloc | apply pw_below_drewN | apply below_drew1) | exact HB.out)⟩

end Go.Proofs.Ytcgglamgemgeiaa.Q
/- FFeatureSubset -/
namespace Go.Proofs.Ytcgglamgemgeiaa.Q
open Go.RowKit Go.Proofs.YtcgglamgemgeiaaW.PrintWords Go.Proofs.YtcgglamgemgeiaaW.PrintLast Go.Proofs.YtcgglamgemgeiaaW.PrintMore
attribute [local go_sem] max2_int min2_int max_two min_two max_three min_three max_four min_four   -- for this text's walks alone
set_option linter.unusedVariables false
set_option linter.unusedSimpArgs false

/-! ### feature_Subset: function 24 -/
def feature_Subset.l0 : Nat → List (List ByteArray) → List ByteArray → Int → Int → Option (Bool × Int)
  | 0, _, _, _, _ => none
  | k + 1, x6, x22, x23, x24 => if x24 < x23 then (if 0 ≤ x24 then (if x24 < (x22.length : Int) then (if 1 < (x6.length : Int) then ((feature_contains.f k (rd_L1 x6 1) (rdOf ByteArray.empty x22 x24)).bind fun t423 => (if t423 = true then (feature_Subset.l0 k x6 x22 x23 (wrap64 (x24 + 1))) else (some (false, 0)))) else (none)) else (none)) else (none)) else (some (true, 0))
def feature_Subset.f (k : Nat) (a0 : ByteArray) (a1 : ByteArray) : Option (Bool × Int) := (feature_parseAll.f k (([a0, a1] : List ByteArray))).bind fun bt416 => (if bt416.2 = 0 then (if 0 < (bt416.1.length : Int) then (feature_Subset.l0 k bt416.1 (rd_L1 bt416.1 0) ((rd_L1 bt416.1 0).length : Int) 0) else (none)) else (some (false, bt416.2)))
theorem feature_Subset.mono_l : ∀ k, (∀ y0 y1 y2 y3, LeO (feature_Subset.l0 k y0 y1 y2 y3) (feature_Subset.l0 (k + 1) y0 y1 y2 y3))
  | 0 => fun _ _ _ _ r h => by simp [feature_Subset.l0] at h
  | k + 1 => by
    have ih0 := feature_Subset.mono_l k
    · intro y0 y1 y2 y3
      unfold feature_Subset.l0
      repeat' first
      | (with_reducible exact ih0 _ _ _ _)
      | (with_reducible exact feature_contains.mono _ _ _)
      | (with_reducible exact feature_parseAll.mono _ _)
      | (with_reducible exact LeO.refl _)
      | (with_reducible exact LeO.none _)
      | (with_reducible refine LeO.ite ?_ ?_)
      | (with_reducible refine LeO.bind ?_ (fun _ => ?_))
      | exact ih0 _ _ _ _
      | exact feature_contains.mono _ _ _
      | exact feature_parseAll.mono _ _
      | exact LeO.none _
      | refine LeO.ite ?_ ?_
      | refine LeO.bind ?_ (fun _ => ?_)
theorem feature_Subset.mono : ∀ a0 a1 k, LeO (feature_Subset.f k a0 a1) (feature_Subset.f (k + 1) a0 a1) := by
  intro a0 a1 k
  have ih0 := feature_Subset.mono_l k
  unfold feature_Subset.f
  repeat' first
      | (with_reducible exact ih0 _ _ _ _)
      | (with_reducible exact feature_contains.mono _ _ _)
      | (with_reducible exact feature_parseAll.mono _ _)
      | (with_reducible exact LeO.refl _)
      | (with_reducible exact LeO.none _)
      | (with_reducible refine LeO.ite ?_ ?_)
      | (with_reducible refine LeO.bind ?_ (fun _ => ?_))
      | exact ih0 _ _ _ _
      | exact feature_contains.mono _ _ _
      | exact feature_parseAll.mono _ _
      | exact LeO.none _
      | refine LeO.ite ?_ ?_
      | refine LeO.bind ?_ (fun _ => ?_)
set_option maxHeartbeats 8000000 in
set_option maxRecDepth 100000 in
theorem feature_Subset.calls (k : Nat) (a0 : ByteArray) (a1 : ByteArray) (r1 : Bool) (r2 : Int) (w : World) (h : feature_Subset.f k a0 a1 = some (r1, r2)) :
    Calls Try.prog 24 #[.string a0, .string a1] w fun e w' => e = .returned (.tuple #[.bool r1, .int .i64 r2]) ∧ Below w.heap.size w w' := by
  have HB := Aside0.mk (Below.refl w.heap.size w)
  have H : ((feature_parseAll.f k (([a0, a1] : List ByteArray))).bind fun bt416 => (if bt416.2 = 0 then (if 0 < (bt416.1.length : Int) then (feature_Subset.l0 k bt416.1 (rd_L1 bt416.1 0) ((rd_L1 bt416.1 0).length : Int) 0) else (none)) else (some (false, bt416.2)))) = some (r1, r2) := h
  clear h
  obtain ⟨y413, hy413⟩ : ∃ y_ : List ByteArray, y_ = (([a0, a1] : List ByteArray)) := ⟨_, rfl⟩
  replace H : ((feature_parseAll.f k y413).bind fun bt416 => (if bt416.2 = 0 then (if 0 < (bt416.1.length : Int) then (feature_Subset.l0 k bt416.1 (rd_L1 bt416.1 0) ((rd_L1 bt416.1 0).length : Int) 0) else (none)) else (some (false, bt416.2)))) = some (r1, r2) := by first | (rw [hy413]; with_reducible exact H) | (have H2_ := (Option.bind_some _ _).symm.trans H; rw [hy413]; with_reducible exact H2_) | (have H2_ := (Option.bind_some _ _).symm.trans H; with_reducible exact H2_) | with_reducible exact H | (rw [hy413]; exact H) | exact H
  have Ny413 := Aside0.mk hy413
  clear hy413
  replace H := Option.bind_eq_some_iff.mp H
  obtain ⟨⟨t416, t417⟩, A30, H⟩ := H
  replace H : (if t417 = 0 then (if 0 < (t416.length : Int) then (feature_Subset.l0 k t416 (rd_L1 t416 0) ((rd_L1 t416 0).length : Int) 0) else (none)) else (some (false, t417))) = some (r1, r2) := H
  have A3 := Aside0.mk A30
  clear A30
  by_cases c4 : t417 = 0
  · rw [if_pos c4] at H
    have c4b0 : (t417 == 0) = true := beq_iff_eq.mpr c4
    have c4b1 : (t417 != 0) = false := bne_eq_false_iff_eq.mpr c4
    clear c4
    by_cases c5 : 0 < (t416.length : Int)
    · rw [if_pos c5] at H
      have c5b0 : decide (0 < (t416.length : Int)) = true := decide_eq_true c5
      have c5b1 : decide (0 < t416.length) = true := decide_eq_true (by omega)
      clear c5
      have H' := Aside0.mk H
      clear H
      go_enter Try.func24, Try.ntmps24
      go_wp2_with (first | ((with_reducible refine gate_dst (N := 13) rfl ?_); refine Kd.R_lit Kd.string _ 9 ?hg (N := 13) ?hd (xs := ([a0, a1] : List ByteArray)) (inner := [.string a0, .string a1]) (ok := fun _ => True) (okp := fun _ => True) ?hr ?hp (fun _ hk => hk) trivial (Below.refl _ _) (Nat.le_refl _) (by simp) ?_; (case hd => rfl); (case hg => rfl); (case hr => first | (go_simp; done) | (go_simp; rfl)); (case hp => exact (Reps.one (show Kd.M Kd.string _ _ _ a0 [.string a0] from rfl) (Reps.one (show Kd.M Kd.string _ _ _ a1 [.string a1] from rfl) (Reps.none _ _)))); intro v414 w6 ho7 hb hg_ hnew_; clear hg_ hnew_; (first | rw [← Ny413.out] at ho7 | (simp only [Int.reduceToNat] at ho7; rw [← Ny413.out] at ho7)); have n0_ := Aside0.mk (Kd.R_lower ho7 (below_size (by repeat (first | (with_reducible first | exact HB.out | apply below_alloc | apply pw_below_drewN | apply below_drew1) | exact HB.out)))); have n1_ := Aside0.mk (below_step (by repeat (first | (with_reducible first | exact HB.out | apply below_alloc | apply pw_below_drewN | apply below_drew1) | exact HB.out)) hb); clear HB; have HO415 := n0_; have HB := n1_; clear n0_ n1_; clear hb ho7; obtain ⟨Ao8, co8, eo8⟩ := Kd.R_slice HO415.out; subst eo8) | ((with_reducible refine gate_callee (f := 35) rfl ?_); refine goesL_ (some 14) rfl rfl Try.func35 (by kernel_rfl) rfl #[.slice Ao8 y413.length co8] rfl (by (try simp only [List.map_toArray, List.map_cons, List.map_nil]); first | done | rfl | (simp only [List.length_drop, List.length_take]; rfl)) ?_; (with_reducible refine (feature_parseAll.calls k _ _ y413 t416 t417 _ ?side1 ?side2 A3.out).mono ?_); (case side1 => repeat (first | exact (Kd.R_reads' HO415.out).2.2 | (with_reducible refine Kd.C_alloc ?_ _) | (with_reducible refine Kd.C_drewN ?_ _) | (with_reducible refine Kd.C_drew ?_))); (case side2 => exact (Kd.R_reads' HO415.out).2.1); rintro e w9 ⟨v418, rfl, ho0, hb⟩; refine ⟨_, rfl, ?_⟩; have n0_ := Aside0.mk (Kd.R_below (by (with_reducible repeat (first | apply Kd.R_alloc | apply Kd.R_drewN | apply Kd.R_drew)); exact HO415.out) hb); have n1_ := Aside0.mk (Kd.S_lower (Kd.S_new' ho0 (Kd.R_lt (by (with_reducible repeat (first | apply Kd.R_alloc | apply Kd.R_drewN | apply Kd.R_drew)); exact HO415.out))) (below_size (by repeat (first | (with_reducible first | exact HB.out | apply below_alloc | apply pw_below_drewN | apply below_drew1) | exact HB.out)))); have n2_ := Aside0.mk (below_step (by repeat (first | (with_reducible first | exact HB.out | apply below_alloc | apply pw_below_drewN | apply below_drew1) | exact HB.out)) hb); clear HO415; clear HB; have HO415 := n0_; have HO419 := n1_; have HB := n2_; clear n0_ n1_ n2_; (try clear hb); (try clear hb2); (try clear hk); (try clear hi); (try clear ho0); obtain ⟨Ao10, co10, eo10⟩ := Kd.S_slice HO419.out; subst eo10; have p420 : 0 ≤ (0 : Int) := (by omega); have q420 : 0 < (t416.length : Int) := of_decide_eq_true (by first | (with_reducible assumption) | assumption); obtain ⟨ad420, A420_0, c420_0, e420, hx420_0, hl420_0, hi420_0⟩ := at_L1 (Kd.S_reads' HO419.out).2.2 0 p420 q420; cases e420; obtain ⟨ce420, hce420, hMe420, hcc420⟩ := Kd.S_get HO419.out [] 0 p420 (by first | exact q420 | exact of_decide_eq_true (by first | (with_reducible assumption) | assumption) | (have e_ := (Kd.S_reads' HO419.out).1; omega)); obtain ⟨ve420_0, rfl, ge420_0⟩ := hMe420; have hv420_0 := hcc420 0 _ rfl; rw [Nat.add_zero, show ((Kd.slice 9 Kd.string)).sz = 1 from rfl, Nat.mul_one] at hv420_0; replace hv420_0 := Option.some.inj (hv420_0.symm.trans hx420_0); rw [hv420_0] at ge420_0; have HL420_0 := Aside0.mk (show Kd.R Kd.string 9 _ _ _ _ (rd_L1 t416 0) from ge420_0); clear hv420_0 ge420_0; clear hcc420 hce420; have qi420 : (0 < t416.length) = True := eq_true (by omega); (try rw [show ((0 : Int)).toNat = 0 from rfl] at hx420_0); (try rw [Addr.add_zero'] at hx420_0); have HR420_0 := Aside0.mk hi420_0; have HC420_0 := Aside0.mk hl420_0; clear hi420_0 hl420_0; replace p420 := eq_true p420; replace q420 := eq_true q420))
      go_loopg [24] k (fun kq v24 w' => ∃ (x24_1 : Int), v24 = .int .i64 x24_1 ∧ Aside0 (feature_Subset.l0 kq t416 (rd_L1 t416 0) ((rd_L1 t416 0).length : Int) x24_1 = some (r1, r2)) ∧ Aside0 (kq ≤ k) ∧ Aside0 (Kd.S (Kd.slice 9 Kd.string) 23 w' w.heap.size (fun _ => True) (.slice (some ad420) t416.length co10) t416) ∧ Aside0 (Kd.C Kd.string w' A420_0 (rd_L1 t416 0).length (rd_L1 t416 0)) ∧ Aside0 (Below w.heap.size w w'))
      case atStart => exact ⟨(0), (by first | rfl | (simp; done) | (simp [*]; done)), H', ⟨Nat.le_refl _⟩, ⟨by (with_reducible repeat (first | apply Kd.S_alloc | apply Kd.S_drewN | apply Kd.S_drew)); exact Kd.S_mono HO419.out (fun _ hk => trivial)⟩, ⟨by repeat (first | (with_reducible exact HR420_0.out) | (with_reducible refine Kd.C_alloc ?_ _) | (with_reducible refine Kd.C_drewN ?_ _) | (with_reducible refine Kd.C_drew ?_) | exact HR420_0.out)⟩, ⟨by repeat (first | (with_reducible first | exact HB.out | apply below_alloc | apply pw_below_drewN | apply below_drew1) | exact HB.out)⟩⟩
      case round =>
        clear H'
        try clear c2
        try clear p2
        try clear c3
        try clear c4
        try clear c4b0
        try clear c4b1
        try clear p4
        try clear q4
        try clear hx4
        try clear qi4
        try clear c5
        try clear c5b0
        try clear c5b1
        try clear hx420_0
        try clear p420
        try clear q420
        obtain ⟨x24_1, rfl, HA, HK1, HO_6, HR420_0, HB⟩ := hrel
        cases gk with
        | zero => exact absurd HA.out (by simp [feature_Subset.l0])
        | succ k1 =>
          have H := HA.out
          clear HA
          simp only [feature_Subset.l0] at H
          by_cases c11 : x24_1 < ((rd_L1 t416 0).length : Int)
          · rw [if_pos c11] at H
            have c11b0 : decide (x24_1 < ((rd_L1 t416 0).length : Int)) = true := decide_eq_true c11
            clear c11
            by_cases c12 : 0 ≤ x24_1
            · rw [if_pos c12] at H
              have c12b0 : decide (0 ≤ x24_1) = true := decide_eq_true c12
              clear c12
              by_cases c13 : x24_1 < ((rd_L1 t416 0).length : Int)
              · rw [if_pos c13] at H
                have c13b0 : decide (x24_1 < ((rd_L1 t416 0).length : Int)) = true := decide_eq_true c13
                clear c13
                by_cases c14 : 1 < (t416.length : Int)
                · rw [if_pos c14] at H
                  have c14b0 : decide (1 < (t416.length : Int)) = true := decide_eq_true c14
                  have c14b1 : decide (1 < t416.length) = true := decide_eq_true (by omega)
                  clear c14
                  replace H := Option.bind_eq_some_iff.mp H
                  obtain ⟨t423, A150, H⟩ := H
                  replace H : (if t423 = true then (feature_Subset.l0 k1 t416 (rd_L1 t416 0) ((rd_L1 t416 0).length : Int) (wrap64 (x24_1 + 1))) else (some (false, 0))) = some (r1, r2) := H
                  have A15 := Aside0.mk A150
                  clear A150
                  by_cases c16 : t423 = true
                  · subst c16
                    have H1 : (feature_Subset.l0 k1 t416 (rd_L1 t416 0) ((rd_L1 t416 0).length : Int) (wrap64 (x24_1 + 1))) = some (r1, r2) := by rw [if_pos rfl] at H; exact H
                    clear H
                    have H := H1
                    clear H1
                    have H' := Aside0.mk H
                    clear H
                    have p421 : 0 ≤ (x24_1 : Int) := of_decide_eq_true (by first | (with_reducible assumption) | assumption)
                    have q421 : x24_1 < ((rd_L1 t416 0).length : Int) := of_decide_eq_true (by first | (with_reducible assumption) | assumption)
                    obtain ⟨ad421, e421, hx421_0⟩ := Kd.at_string HR420_0.out x24_1 p421 q421
                    cases e421
                    replace p421 := eq_true p421
                    replace q421 := eq_true q421
                    have p422 : 0 ≤ (1 : Int) := (by omega)
                    have q422 : 1 < (t416.length : Int) := of_decide_eq_true (by first | (with_reducible assumption) | assumption)
                    obtain ⟨ad422, A422_0, c422_0, e422, hx422_0, hl422_0, hi422_0⟩ := at_L1 (Kd.S_reads' HO_6.out).2.2 1 p422 q422
                    obtain rfl : ad420 = ad422 := (by injection e422)
                    obtain ⟨ce422, hce422, hMe422, hcc422⟩ := Kd.S_get HO_6.out [] 1 p422 (by first | exact q422 | exact of_decide_eq_true (by first | (with_reducible assumption) | assumption) | (have e_ := (Kd.S_reads' HO_6.out).1; omega))
                    obtain ⟨ve422_0, rfl, ge422_0⟩ := hMe422
                    have hv422_0 := hcc422 0 _ rfl
                    rw [Nat.add_zero, show ((Kd.slice 9 Kd.string)).sz = 1 from rfl, Nat.mul_one] at hv422_0
                    replace hv422_0 := Option.some.inj (hv422_0.symm.trans hx422_0)
                    rw [hv422_0] at ge422_0
                    have HL422_0 := Aside0.mk (show Kd.R Kd.string 9 _ _ _ _ (rd_L1 t416 1) from ge422_0)
                    clear hv422_0 ge422_0
                    clear hcc422 hce422
                    (try simp only [show (1 : Int).toNat = 1 from rfl, Nat.reduceMul, Nat.reduceEqDiff, Go.Addr.add, ↓reduceIte] at hx422_0)
                    have qi422 : (1 < t416.length) = True := eq_true (by omega)
                    (try rw [show ((1 : Int)).toNat = 1 from rfl] at hx422_0)
                    have HR422_0 := Aside0.mk hi422_0
                    have HC422_0 := Aside0.mk hl422_0
                    clear hi422_0 hl422_0
                    replace p422 := eq_true p422
                    replace q422 := eq_true q422
                    go_wp2_with (first | ((with_reducible refine gate_callee (f := 33) rfl ?_); refine goesL_ (some 32) rfl rfl Try.func33 (by kernel_rfl) rfl #[.slice A422_0 (rd_L1 t416 1).length c422_0, .string (rdOf ByteArray.empty (rd_L1 t416 0) x24_1)] rfl (by (try simp only [List.map_toArray, List.map_cons, List.map_nil]); first | done | rfl | (simp only [List.length_drop, List.length_take]; rfl)) ?_; (with_reducible refine (feature_contains.calls k1 _ _ (rd_L1 t416 1) (rdOf ByteArray.empty (rd_L1 t416 0) x24_1) true _ ?side1 ?side2 A15.out).mono ?_); (case side1 => repeat (first | exact (by repeat (first | (with_reducible exact HR422_0.out) | (with_reducible refine Kd.C_alloc ?_ _) | (with_reducible refine Kd.C_drewN ?_ _) | (with_reducible refine Kd.C_drew ?_) | exact HR422_0.out)) | (with_reducible refine Kd.C_alloc ?_ _) | (with_reducible refine Kd.C_drewN ?_ _) | (with_reducible refine Kd.C_drew ?_))); (case side2 => exact HC422_0.out); rintro e w' ⟨rfl, ⟨nd, rfl⟩⟩; refine ⟨_, rfl, ?_⟩))
                    go_roundg k1
                    case measure => have := HK1.out; omega
                    case rel => exact ⟨(wrap64 (x24_1 + 1)), (by first | rfl | (simp; done) | (simp [*]; done)), H', ⟨by have := HK1.out; omega⟩, ⟨by (with_reducible repeat (first | apply Kd.S_alloc | apply Kd.S_drewN | apply Kd.S_drew)); exact HO_6.out⟩, ⟨by repeat (first | (with_reducible exact HR420_0.out) | (with_reducible refine Kd.C_alloc ?_ _) | (with_reducible refine Kd.C_drewN ?_ _) | (with_reducible refine Kd.C_drew ?_) | exact HR420_0.out)⟩, ⟨by repeat (first | (with_reducible first | exact HB.out | apply below_alloc | apply pw_below_drewN | apply below_drew1) | exact HB.out)⟩⟩
                  · replace c16 := Bool.eq_false_iff.mpr c16
                    subst c16
                    have H1 : (some (false, 0)) = some (r1, r2) := by rw [if_neg (show ¬ (false = true) by decide)] at H; exact H
                    clear H
                    have H := H1
                    clear H1
                    simp only [Option.some.injEq, Prod.mk.injEq] at H
                    obtain ⟨rfl, rfl⟩ := H
                    have p421 : 0 ≤ (x24_1 : Int) := of_decide_eq_true (by first | (with_reducible assumption) | assumption)
                    have q421 : x24_1 < ((rd_L1 t416 0).length : Int) := of_decide_eq_true (by first | (with_reducible assumption) | assumption)
                    obtain ⟨ad421, e421, hx421_0⟩ := Kd.at_string HR420_0.out x24_1 p421 q421
                    cases e421
                    replace p421 := eq_true p421
                    replace q421 := eq_true q421
                    have p422 : 0 ≤ (1 : Int) := (by omega)
                    have q422 : 1 < (t416.length : Int) := of_decide_eq_true (by first | (with_reducible assumption) | assumption)
                    obtain ⟨ad422, A422_0, c422_0, e422, hx422_0, hl422_0, hi422_0⟩ := at_L1 (Kd.S_reads' HO_6.out).2.2 1 p422 q422
                    obtain rfl : ad420 = ad422 := (by injection e422)
                    obtain ⟨ce422, hce422, hMe422, hcc422⟩ := Kd.S_get HO_6.out [] 1 p422 (by first | exact q422 | exact of_decide_eq_true (by first | (with_reducible assumption) | assumption) | (have e_ := (Kd.S_reads' HO_6.out).1; omega))
                    obtain ⟨ve422_0, rfl, ge422_0⟩ := hMe422
                    have hv422_0 := hcc422 0 _ rfl
                    rw [Nat.add_zero, show ((Kd.slice 9 Kd.string)).sz = 1 from rfl, Nat.mul_one] at hv422_0
                    replace hv422_0 := Option.some.inj (hv422_0.symm.trans hx422_0)
                    rw [hv422_0] at ge422_0
                    have HL422_0 := Aside0.mk (show Kd.R Kd.string 9 _ _ _ _ (rd_L1 t416 1) from ge422_0)
                    clear hv422_0 ge422_0
                    clear hcc422 hce422
                    (try simp only [show (1 : Int).toNat = 1 from rfl, Nat.reduceMul, Nat.reduceEqDiff, Go.Addr.add, ↓reduceIte] at hx422_0)
                    have qi422 : (1 < t416.length) = True := eq_true (by omega)
                    (try rw [show ((1 : Int)).toNat = 1 from rfl] at hx422_0)
                    have HR422_0 := Aside0.mk hi422_0
                    have HC422_0 := Aside0.mk hl422_0
                    clear hi422_0 hl422_0
                    replace p422 := eq_true p422
                    replace q422 := eq_true q422
                    go_wp2_with (first | ((with_reducible refine gate_callee (f := 33) rfl ?_); refine goesL_ (some 32) rfl rfl Try.func33 (by kernel_rfl) rfl #[.slice A422_0 (rd_L1 t416 1).length c422_0, .string (rdOf ByteArray.empty (rd_L1 t416 0) x24_1)] rfl (by (try simp only [List.map_toArray, List.map_cons, List.map_nil]); first | done | rfl | (simp only [List.length_drop, List.length_take]; rfl)) ?_; (with_reducible refine (feature_contains.calls k1 _ _ (rd_L1 t416 1) (rdOf ByteArray.empty (rd_L1 t416 0) x24_1) false _ ?side1 ?side2 A15.out).mono ?_); (case side1 => repeat (first | exact (by repeat (first | (with_reducible exact HR422_0.out) | (with_reducible refine Kd.C_alloc ?_ _) | (with_reducible refine Kd.C_drewN ?_ _) | (with_reducible refine Kd.C_drew ?_) | exact HR422_0.out)) | (with_reducible refine Kd.C_alloc ?_ _) | (with_reducible refine Kd.C_drewN ?_ _) | (with_reducible refine Kd.C_drew ?_))); (case side2 => exact HC422_0.out); rintro e w' ⟨rfl, ⟨nd, rfl⟩⟩; refine ⟨_, rfl, ?_⟩))
                    go_ret2
                    exact ⟨by first | rfl | (simp [errW_none, errW_some] <;> rfl) | (simp [*, errW_none, errW_some] <;> rfl), by repeat (first | (with_reducible first | exact HB.out | apply below_alloc | apply pw_below_drewN | apply below_drew1) | exact HB.out)⟩
                · rw [if_neg c14] at H
                  exact absurd H (by simp)
              · rw [if_neg c13] at H
                exact absurd H (by simp)
            · rw [if_neg c12] at H
              exact absurd H (by simp)
          · rw [if_neg c11] at H
            have c11b0 : decide (x24_1 < ((rd_L1 t416 0).length : Int)) = false := decide_eq_false c11
            clear c11
            simp only [Option.some.injEq, Prod.mk.injEq] at H
            obtain ⟨rfl, rfl⟩ := H
            go_wp2
            go_ret2
            exact ⟨by first | rfl | (simp [errW_none, errW_some] <;> rfl) | (simp [*, errW_none, errW_some] <;> rfl), by repeat (first | (with_reducible first | exact HB.out | apply below_alloc | apply pw_below_drewN | apply below_drew1) | exact HB.out)⟩
    · rw [if_neg c5] at H
      exact absurd H (by simp)
  · rw [if_neg c4] at H
    have c4b0 : (t417 == 0) = false := beq_eq_false_iff_ne.mpr c4
    have c4b1 : (t417 != 0) = true := bne_iff_ne.mpr c4
    simp only [Option.some.injEq, Prod.mk.injEq] at H
    obtain ⟨rfl, rfl⟩ := H
    go_enter Try.func24, Try.ntmps24
    go_wp2_with (first | ((with_reducible refine gate_dst (N := 13) rfl ?_); refine Kd.R_lit Kd.string _ 9 ?hg (N := 13) ?hd (xs := ([a0, a1] : List ByteArray)) (inner := [.string a0, .string a1]) (ok := fun _ => True) (okp := fun _ => True) ?hr ?hp (fun _ hk => hk) trivial (Below.refl _ _) (Nat.le_refl _) (by simp) ?_; (case hd => rfl); (case hg => rfl); (case hr => first | (go_simp; done) | (go_simp; rfl)); (case hp => exact (Reps.one (show Kd.M Kd.string _ _ _ a0 [.string a0] from rfl) (Reps.one (show Kd.M Kd.string _ _ _ a1 [.string a1] from rfl) (Reps.none _ _)))); intro v414 w17 ho18 hb hg_ hnew_; clear hg_ hnew_; (first | rw [← Ny413.out] at ho18 | (simp only [Int.reduceToNat] at ho18; rw [← Ny413.out] at ho18)); have n0_ := Aside0.mk (Kd.R_lower ho18 (below_size (by repeat (first | (with_reducible first | exact HB.out | apply below_alloc | apply pw_below_drewN | apply below_drew1) | exact HB.out)))); have n1_ := Aside0.mk (below_step (by repeat (first | (with_reducible first | exact HB.out | apply below_alloc | apply pw_below_drewN | apply below_drew1) | exact HB.out)) hb); clear HB; have HO415 := n0_; have HB := n1_; clear n0_ n1_; clear hb ho18; obtain ⟨Ao19, co19, eo19⟩ := Kd.R_slice HO415.out; subst eo19) | ((with_reducible refine gate_callee (f := 35) rfl ?_); refine goesL_ (some 14) rfl rfl Try.func35 (by kernel_rfl) rfl #[.slice Ao19 y413.length co19] rfl (by (try simp only [List.map_toArray, List.map_cons, List.map_nil]); first | done | rfl | (simp only [List.length_drop, List.length_take]; rfl)) ?_; (with_reducible refine (feature_parseAll.calls k _ _ y413 t416 t417 _ ?side1 ?side2 A3.out).mono ?_); (case side1 => repeat (first | exact (Kd.R_reads' HO415.out).2.2 | (with_reducible refine Kd.C_alloc ?_ _) | (with_reducible refine Kd.C_drewN ?_ _) | (with_reducible refine Kd.C_drew ?_))); (case side2 => exact (Kd.R_reads' HO415.out).2.1); rintro e w20 ⟨v418, rfl, ho0, hb⟩; refine ⟨_, rfl, ?_⟩; have n0_ := Aside0.mk (Kd.R_below (by (with_reducible repeat (first | apply Kd.R_alloc | apply Kd.R_drewN | apply Kd.R_drew)); exact HO415.out) hb); have n1_ := Aside0.mk (Kd.S_lower (Kd.S_new' ho0 (Kd.R_lt (by (with_reducible repeat (first | apply Kd.R_alloc | apply Kd.R_drewN | apply Kd.R_drew)); exact HO415.out))) (below_size (by repeat (first | (with_reducible first | exact HB.out | apply below_alloc | apply pw_below_drewN | apply below_drew1) | exact HB.out)))); have n2_ := Aside0.mk (below_step (by repeat (first | (with_reducible first | exact HB.out | apply below_alloc | apply pw_below_drewN | apply below_drew1) | exact HB.out)) hb); clear HO415; clear HB; have HO415 := n0_; have HO419 := n1_; have HB := n2_; clear n0_ n1_ n2_; (try clear hb); (try clear hb2); (try clear hk); (try clear hi); (try clear ho0)))
    go_ret2
    exact ⟨by first | rfl | (simp [errW_none, errW_some] <;> rfl) | (simp [*, errW_none, errW_some] <;> rfl), by repeat (first | (with_reducible first | exact HB.out | apply below_alloc | apply pw_below_drewN | apply below_drew1) | exact HB.out)⟩

end Go.Proofs.Ytcgglamgemgeiaa.Q
/- FCorporaref05Subset -/
namespace Go.Proofs.Ytcgglamgemgeiaa.Q
open Go.RowKit Go.Proofs.YtcgglamgemgeiaaW.PrintWords Go.Proofs.YtcgglamgemgeiaaW.PrintLast Go.Proofs.YtcgglamgemgeiaaW.PrintMore
attribute [local go_sem] max2_int min2_int max_two min_two max_three min_three max_four min_four   -- for this text's walks alone
set_option linter.unusedVariables false
set_option linter.unusedSimpArgs false

/-! ### corporaref05_Subset: function 25 -/
def corporaref05_Subset.l0 : Nat → List ByteArray → List ByteArray → Int → Int → Option (Bool × Int)
  | 0, _, _, _, _ => none
  | k + 1, x8, x27, x28, x29 => if x29 < x28 then (if 0 ≤ x29 then (if x29 < (x27.length : Int) then ((corporaref05_member.f k x8 (rdOf ByteArray.empty x27 x29)).bind fun t433 => (if t433 = true then (corporaref05_Subset.l0 k x8 x27 x28 (wrap64 (x29 + 1))) else (some (false, 0)))) else (none)) else (none)) else (some (true, 0))
def corporaref05_Subset.f (k : Nat) (a0 : ByteArray) (a1 : ByteArray) : Option (Bool × Int) := (corporaref05_Parse.f k a0).bind fun bt424 => (if bt424.2 = 0 then ((corporaref05_Parse.f k a1).bind fun bt428 => (if bt428.2 = 0 then (corporaref05_Subset.l0 k bt428.1 bt424.1 (bt424.1.length : Int) 0) else (some (false, bt428.2)))) else (some (false, bt424.2)))
theorem corporaref05_Subset.mono_l : ∀ k, (∀ y0 y1 y2 y3, LeO (corporaref05_Subset.l0 k y0 y1 y2 y3) (corporaref05_Subset.l0 (k + 1) y0 y1 y2 y3))
  | 0 => fun _ _ _ _ r h => by simp [corporaref05_Subset.l0] at h
  | k + 1 => by
    have ih0 := corporaref05_Subset.mono_l k
    · intro y0 y1 y2 y3
      unfold corporaref05_Subset.l0
      repeat' first
      | (with_reducible exact ih0 _ _ _ _)
      | (with_reducible exact corporaref05_Parse.mono _ _)
      | (with_reducible exact corporaref05_member.mono _ _ _)
      | (with_reducible exact LeO.refl _)
      | (with_reducible exact LeO.none _)
      | (with_reducible refine LeO.ite ?_ ?_)
      | (with_reducible refine LeO.bind ?_ (fun _ => ?_))
      | exact ih0 _ _ _ _
      | exact corporaref05_Parse.mono _ _
      | exact corporaref05_member.mono _ _ _
      | exact LeO.none _
      | refine LeO.ite ?_ ?_
      | refine LeO.bind ?_ (fun _ => ?_)
theorem corporaref05_Subset.mono : ∀ a0 a1 k, LeO (corporaref05_Subset.f k a0 a1) (corporaref05_Subset.f (k + 1) a0 a1) := by
  intro a0 a1 k
  have ih0 := corporaref05_Subset.mono_l k
  unfold corporaref05_Subset.f
  repeat' first
      | (with_reducible exact ih0 _ _ _ _)
      | (with_reducible exact corporaref05_Parse.mono _ _)
      | (with_reducible exact corporaref05_member.mono _ _ _)
      | (with_reducible exact LeO.refl _)
      | (with_reducible exact LeO.none _)
      | (with_reducible refine LeO.ite ?_ ?_)
      | (with_reducible refine LeO.bind ?_ (fun _ => ?_))
      | exact ih0 _ _ _ _
      | exact corporaref05_Parse.mono _ _
      | exact corporaref05_member.mono _ _ _
      | exact LeO.none _
      | refine LeO.ite ?_ ?_
      | refine LeO.bind ?_ (fun _ => ?_)
set_option maxHeartbeats 8000000 in
set_option maxRecDepth 100000 in
theorem corporaref05_Subset.calls (k : Nat) (a0 : ByteArray) (a1 : ByteArray) (r1 : Bool) (r2 : Int) (w : World) (h : corporaref05_Subset.f k a0 a1 = some (r1, r2)) :
    Calls Try.prog 25 #[.string a0, .string a1] w fun e w' => e = .returned (.tuple #[.bool r1, .int .i64 r2]) ∧ Below w.heap.size w w' := by
  have HB := Aside0.mk (Below.refl w.heap.size w)
  have H : ((corporaref05_Parse.f k a0).bind fun bt424 => (if bt424.2 = 0 then ((corporaref05_Parse.f k a1).bind fun bt428 => (if bt428.2 = 0 then (corporaref05_Subset.l0 k bt428.1 bt424.1 (bt424.1.length : Int) 0) else (some (false, bt428.2)))) else (some (false, bt424.2)))) = some (r1, r2) := h
  clear h
  replace H := Option.bind_eq_some_iff.mp H
  obtain ⟨⟨t424, t425⟩, A30, H⟩ := H
  replace H : (if t425 = 0 then ((corporaref05_Parse.f k a1).bind fun bt428 => (if bt428.2 = 0 then (corporaref05_Subset.l0 k bt428.1 t424 (t424.length : Int) 0) else (some (false, bt428.2)))) else (some (false, t425))) = some (r1, r2) := H
  have A3 := Aside0.mk A30
  clear A30
  by_cases c4 : t425 = 0
  · rw [if_pos c4] at H
    have c4b0 : (t425 == 0) = true := beq_iff_eq.mpr c4
    have c4b1 : (t425 != 0) = false := bne_eq_false_iff_eq.mpr c4
    clear c4
    replace H := Option.bind_eq_some_iff.mp H
    obtain ⟨⟨t428, t429⟩, A50, H⟩ := H
    replace H : (if t429 = 0 then (corporaref05_Subset.l0 k t428 t424 (t424.length : Int) 0) else (some (false, t429))) = some (r1, r2) := H
    have A5 := Aside0.mk A50
    clear A50
    by_cases c6 : t429 = 0
    · rw [if_pos c6] at H
      have c6b0 : (t429 == 0) = true := beq_iff_eq.mpr c6
      have c6b1 : (t429 != 0) = false := bne_eq_false_iff_eq.mpr c6
      clear c6
      have H' := Aside0.mk H
      clear H
      go_enter Try.func25, Try.ntmps25
      go_wp2_with (first | ((with_reducible refine gate_callee (f := 13) rfl ?_); refine goesL_ (some 13) rfl rfl Try.func13 (by kernel_rfl) rfl #[.string a0] rfl (by (try simp only [List.map_toArray, List.map_cons, List.map_nil]); first | done | rfl | (simp only [List.length_drop, List.length_take]; rfl)) ?_; (with_reducible refine (corporaref05_Parse.calls k a0 t424 t425 _ A3.out).mono ?_); rintro e w7 ⟨v426, rfl, ho0, hb⟩; refine ⟨_, rfl, ?_⟩; have n0_ := Aside0.mk (Kd.R_lower ho0 (below_size (by repeat (first | (with_reducible first | exact HB.out | apply below_alloc | apply pw_below_drewN | apply below_drew1) | exact HB.out)))); have n1_ := Aside0.mk (below_step (by repeat (first | (with_reducible first | exact HB.out | apply below_alloc | apply pw_below_drewN | apply below_drew1) | exact HB.out)) hb); clear HB; have HO427 := n0_; have HB := n1_; clear n0_ n1_; (try clear hb); (try clear hb2); (try clear hk); (try clear hi); (try clear ho0)) | ((with_reducible refine gate_callee (f := 13) rfl ?_); refine goesL_ (some 21) rfl rfl Try.func13 (by kernel_rfl) rfl #[.string a1] rfl (by (try simp only [List.map_toArray, List.map_cons, List.map_nil]); first | done | rfl | (simp only [List.length_drop, List.length_take]; rfl)) ?_; (with_reducible refine (corporaref05_Parse.calls k a1 t428 t429 _ A5.out).mono ?_); rintro e w8 ⟨v430, rfl, ho0, hb⟩; refine ⟨_, rfl, ?_⟩; have n0_ := Aside0.mk (Kd.R_elder' (by (with_reducible repeat (first | apply Kd.R_alloc | apply Kd.R_drewN | apply Kd.R_drew)); exact HO427.out) (Kd.R_base ho0) hb); have n1_ := Aside0.mk (Kd.R_lower (Kd.R_new' ho0 (Kd.R_lt (by (with_reducible repeat (first | apply Kd.R_alloc | apply Kd.R_drewN | apply Kd.R_drew)); exact HO427.out))) (below_size (by repeat (first | (with_reducible first | exact HB.out | apply below_alloc | apply pw_below_drewN | apply below_drew1) | exact HB.out)))); have n2_ := Aside0.mk (below_step (by repeat (first | (with_reducible first | exact HB.out | apply below_alloc | apply pw_below_drewN | apply below_drew1) | exact HB.out)) hb); clear HO427; clear HB; have HO427 := n0_; have HO431 := n1_; have HB := n2_; clear n0_ n1_ n2_; (try clear hb); (try clear hb2); (try clear hk); (try clear hi); (try clear ho0); obtain ⟨Ao9, co9, eo9⟩ := Kd.R_slice HO427.out; subst eo9))
      go_loopg [29] k (fun kq v29 w' => ∃ (x29_1 : Int), v29 = .int .i64 x29_1 ∧ Aside0 (corporaref05_Subset.l0 kq t428 t424 (t424.length : Int) x29_1 = some (r1, r2)) ∧ Aside0 (kq ≤ k) ∧ Aside0 (Kd.R Kd.string 9 w' w.heap.size (fun k_ => some k_ ≠ ((.slice Ao9 t424.length co9) : Value).ownBlock) v430 t428) ∧ Aside0 (Kd.R Kd.string 9 w' w.heap.size (fun k_ => some k_ ≠ (v430 : Value).ownBlock) (.slice Ao9 t424.length co9) t424) ∧ Aside0 (Below w.heap.size w w'))
      case atStart => exact ⟨(0), (by first | rfl | (simp; done) | (simp [*]; done)), H', ⟨Nat.le_refl _⟩, ⟨by (with_reducible repeat (first | apply Kd.R_alloc | apply Kd.R_drewN | apply Kd.R_drew)); exact Kd.R_mono HO431.out (fun _ hk => hk.2)⟩, ⟨by (with_reducible repeat (first | apply Kd.R_alloc | apply Kd.R_drewN | apply Kd.R_drew)); exact Kd.R_mono HO427.out (fun _ hk => hk.2)⟩, ⟨by repeat (first | (with_reducible first | exact HB.out | apply below_alloc | apply pw_below_drewN | apply below_drew1) | exact HB.out)⟩⟩
      case round =>
        clear H'
        try clear c1
        try clear c2
        try clear p2
        try clear c4
        try clear c4b0
        try clear c4b1
        try clear c6
        try clear c6b0
        try clear c6b1
        obtain ⟨x29_1, rfl, HA, HK1, HO_8, HO_27, HB⟩ := hrel
        cases gk with
        | zero => exact absurd HA.out (by simp [corporaref05_Subset.l0])
        | succ k1 =>
          have H := HA.out
          clear HA
          simp only [corporaref05_Subset.l0] at H
          by_cases c10 : x29_1 < (t424.length : Int)
          · rw [if_pos c10] at H
            have c10b0 : decide (x29_1 < (t424.length : Int)) = true := decide_eq_true c10
            clear c10
            by_cases c11 : 0 ≤ x29_1
            · rw [if_pos c11] at H
              have c11b0 : decide (0 ≤ x29_1) = true := decide_eq_true c11
              clear c11
              by_cases c12 : x29_1 < (t424.length : Int)
              · rw [if_pos c12] at H
                have c12b0 : decide (x29_1 < (t424.length : Int)) = true := decide_eq_true c12
                clear c12
                replace H := Option.bind_eq_some_iff.mp H
                obtain ⟨t433, A130, H⟩ := H
                replace H : (if t433 = true then (corporaref05_Subset.l0 k1 t428 t424 (t424.length : Int) (wrap64 (x29_1 + 1))) else (some (false, 0))) = some (r1, r2) := H
                have A13 := Aside0.mk A130
                clear A130
                by_cases c14 : t433 = true
                · subst c14
                  have H1 : (corporaref05_Subset.l0 k1 t428 t424 (t424.length : Int) (wrap64 (x29_1 + 1))) = some (r1, r2) := by rw [if_pos rfl] at H; exact H
                  clear H
                  have H := H1
                  clear H1
                  have H' := Aside0.mk H
                  clear H
                  have p432 : 0 ≤ (x29_1 : Int) := of_decide_eq_true (by first | (with_reducible assumption) | assumption)
                  have q432 : x29_1 < (t424.length : Int) := of_decide_eq_true (by first | (with_reducible assumption) | assumption)
                  obtain ⟨ad432, e432, hx432_0⟩ := Kd.at_string (Kd.R_reads' HO_27.out).2.2 x29_1 p432 q432
                  cases e432
                  replace p432 := eq_true p432
                  replace q432 := eq_true q432
                  obtain ⟨Ao15, co15, eo15⟩ := Kd.R_slice HO_8.out
                  subst eo15
                  go_wp2_with (first | ((with_reducible refine gate_callee (f := 34) rfl ?_); refine goesL_ (some 35) rfl rfl Try.func34 (by kernel_rfl) rfl #[.slice Ao15 t428.length co15, .string (rdOf ByteArray.empty t424 x29_1)] rfl (by (try simp only [List.map_toArray, List.map_cons, List.map_nil]); first | done | rfl | (simp only [List.length_drop, List.length_take]; rfl)) ?_; (with_reducible refine (corporaref05_member.calls k1 _ _ t428 (rdOf ByteArray.empty t424 x29_1) true _ ?side1 ?side2 A13.out).mono ?_); (case side1 => repeat (first | exact (Kd.R_reads' HO_8.out).2.2 | (with_reducible refine Kd.C_alloc ?_ _) | (with_reducible refine Kd.C_drewN ?_ _) | (with_reducible refine Kd.C_drew ?_))); (case side2 => exact (Kd.R_reads' HO_8.out).2.1); rintro e w' ⟨rfl, ⟨nd, rfl⟩⟩; refine ⟨_, rfl, ?_⟩))
                  go_roundg k1
                  case measure => have := HK1.out; omega
                  case rel => exact ⟨(wrap64 (x29_1 + 1)), (by first | rfl | (simp; done) | (simp [*]; done)), H', ⟨by have := HK1.out; omega⟩, ⟨by (with_reducible repeat (first | apply Kd.R_alloc | apply Kd.R_drewN | apply Kd.R_drew)); exact HO_8.out⟩, ⟨by (with_reducible repeat (first | apply Kd.R_alloc | apply Kd.R_drewN | apply Kd.R_drew)); exact HO_27.out⟩, ⟨by repeat (first | (with_reducible first | exact HB.out | apply below_alloc | apply pw_below_drewN | apply below_drew1) | exact HB.out)⟩⟩
                · replace c14 := Bool.eq_false_iff.mpr c14
                  subst c14
                  have H1 : (some (false, 0)) = some (r1, r2) := by rw [if_neg (show ¬ (false = true) by decide)] at H; exact H
                  clear H
                  have H := H1
                  clear H1
                  simp only [Option.some.injEq, Prod.mk.injEq] at H
                  obtain ⟨rfl, rfl⟩ := H
                  have p432 : 0 ≤ (x29_1 : Int) := of_decide_eq_true (by first | (with_reducible assumption) | assumption)
                  have q432 : x29_1 < (t424.length : Int) := of_decide_eq_true (by first | (with_reducible assumption) | assumption)
                  obtain ⟨ad432, e432, hx432_0⟩ := Kd.at_string (Kd.R_reads' HO_27.out).2.2 x29_1 p432 q432
                  cases e432
                  replace p432 := eq_true p432
                  replace q432 := eq_true q432
                  obtain ⟨Ao16, co16, eo16⟩ := Kd.R_slice HO_8.out
                  subst eo16
                  go_wp2_with (first | ((with_reducible refine gate_callee (f := 34) rfl ?_); refine goesL_ (some 35) rfl rfl Try.func34 (by kernel_rfl) rfl #[.slice Ao16 t428.length co16, .string (rdOf ByteArray.empty t424 x29_1)] rfl (by (try simp only [List.map_toArray, List.map_cons, List.map_nil]); first | done | rfl | (simp only [List.length_drop, List.length_take]; rfl)) ?_; (with_reducible refine (corporaref05_member.calls k1 _ _ t428 (rdOf ByteArray.empty t424 x29_1) false _ ?side1 ?side2 A13.out).mono ?_); (case side1 => repeat (first | exact (Kd.R_reads' HO_8.out).2.2 | (with_reducible refine Kd.C_alloc ?_ _) | (with_reducible refine Kd.C_drewN ?_ _) | (with_reducible refine Kd.C_drew ?_))); (case side2 => exact (Kd.R_reads' HO_8.out).2.1); rintro e w' ⟨rfl, ⟨nd, rfl⟩⟩; refine ⟨_, rfl, ?_⟩))
                  go_ret2
                  exact ⟨by first | rfl | (simp [errW_none, errW_some] <;> rfl) | (simp [*, errW_none, errW_some] <;> rfl), by repeat (first | (with_reducible first | exact HB.out | apply below_alloc | apply pw_below_drewN | apply below_drew1) | exact HB.out)⟩
              · rw [if_neg c12] at H
                exact absurd H (by simp)
            · rw [if_neg c11] at H
              exact absurd H (by simp)
          · rw [if_neg c10] at H
            have c10b0 : decide (x29_1 < (t424.length : Int)) = false := decide_eq_false c10
            clear c10
            simp only [Option.some.injEq, Prod.mk.injEq] at H
            obtain ⟨rfl, rfl⟩ := H
            go_wp2
            go_ret2
            exact ⟨by first | rfl | (simp [errW_none, errW_some] <;> rfl) | (simp [*, errW_none, errW_some] <;> rfl), by repeat (first | (with_reducible first | exact HB.out | apply below_alloc | apply pw_below_drewN | apply below_drew1) | exact HB.out)⟩
    · rw [if_neg c6] at H
      have c6b0 : (t429 == 0) = false := beq_eq_false_iff_ne.mpr c6
      have c6b1 : (t429 != 0) = true := bne_iff_ne.mpr c6
      simp only [Option.some.injEq, Prod.mk.injEq] at H
      obtain ⟨rfl, rfl⟩ := H
      go_enter Try.func25, Try.ntmps25
      go_wp2_with (first | ((with_reducible refine gate_callee (f := 13) rfl ?_); refine goesL_ (some 13) rfl rfl Try.func13 (by kernel_rfl) rfl #[.string a0] rfl (by (try simp only [List.map_toArray, List.map_cons, List.map_nil]); first | done | rfl | (simp only [List.length_drop, List.length_take]; rfl)) ?_; (with_reducible refine (corporaref05_Parse.calls k a0 t424 t425 _ A3.out).mono ?_); rintro e w17 ⟨v426, rfl, ho0, hb⟩; refine ⟨_, rfl, ?_⟩; have n0_ := Aside0.mk (Kd.R_lower ho0 (below_size (by repeat (first | (with_reducible first | exact HB.out | apply below_alloc | apply pw_below_drewN | apply below_drew1) | exact HB.out)))); have n1_ := Aside0.mk (below_step (by repeat (first | (with_reducible first | exact HB.out | apply below_alloc | apply pw_below_drewN | apply below_drew1) | exact HB.out)) hb); clear HB; have HO427 := n0_; have HB := n1_; clear n0_ n1_; (try clear hb); (try clear hb2); (try clear hk); (try clear hi); (try clear ho0)) | ((with_reducible refine gate_callee (f := 13) rfl ?_); refine goesL_ (some 21) rfl rfl Try.func13 (by kernel_rfl) rfl #[.string a1] rfl (by (try simp only [List.map_toArray, List.map_cons, List.map_nil]); first | done | rfl | (simp only [List.length_drop, List.length_take]; rfl)) ?_; (with_reducible refine (corporaref05_Parse.calls k a1 t428 t429 _ A5.out).mono ?_); rintro e w18 ⟨v430, rfl, ho0, hb⟩; refine ⟨_, rfl, ?_⟩; have n0_ := Aside0.mk (Kd.R_elder' (by (with_reducible repeat (first | apply Kd.R_alloc | apply Kd.R_drewN | apply Kd.R_drew)); exact HO427.out) (Kd.R_base ho0) hb); have n1_ := Aside0.mk (Kd.R_lower (Kd.R_new' ho0 (Kd.R_lt (by (with_reducible repeat (first | apply Kd.R_alloc | apply Kd.R_drewN | apply Kd.R_drew)); exact HO427.out))) (below_size (by repeat (first | (with_reducible first | exact HB.out | apply below_alloc | apply pw_below_drewN | apply below_drew1) | exact HB.out)))); have n2_ := Aside0.mk (below_step (by repeat (first | (with_reducible first | exact HB.out | apply below_alloc | apply pw_below_drewN | apply below_drew1) | exact HB.out)) hb); clear HO427; clear HB; have HO427 := n0_; have HO431 := n1_; have HB := n2_; clear n0_ n1_ n2_; (try clear hb); (try clear hb2); (try clear hk); (try clear hi); (try clear ho0)))
      go_ret2
      exact ⟨by first | rfl | (simp [errW_none, errW_some] <;> rfl) | (simp [*, errW_none, errW_some] <;> rfl), by repeat (first | (with_reducible first | exact HB.out | apply below_alloc | apply pw_below_drewN | apply below_drew1) | exact HB.out)⟩
  · rw [if_neg c4] at H
    have c4b0 : (t425 == 0) = false := beq_eq_false_iff_ne.mpr c4
    have c4b1 : (t425 != 0) = true := bne_iff_ne.mpr c4
    simp only [Option.some.injEq, Prod.mk.injEq] at H
    obtain ⟨rfl, rfl⟩ := H
    go_enter Try.func25, Try.ntmps25
    go_wp2_with (first | ((with_reducible refine gate_callee (f := 13) rfl ?_); refine goesL_ (some 13) rfl rfl Try.func13 (by kernel_rfl) rfl #[.string a0] rfl (by (try simp only [List.map_toArray, List.map_cons, List.map_nil]); first | done | rfl | (simp only [List.length_drop, List.length_take]; rfl)) ?_; (with_reducible refine (corporaref05_Parse.calls k a0 t424 t425 _ A3.out).mono ?_); rintro e w19 ⟨v426, rfl, ho0, hb⟩; refine ⟨_, rfl, ?_⟩; have n0_ := Aside0.mk (Kd.R_lower ho0 (below_size (by repeat (first | (with_reducible first | exact HB.out | apply below_alloc | apply pw_below_drewN | apply below_drew1) | exact HB.out)))); have n1_ := Aside0.mk (below_step (by repeat (first | (with_reducible first | exact HB.out | apply below_alloc | apply pw_below_drewN | apply below_drew1) | exact HB.out)) hb); clear HB; have HO427 := n0_; have HB := n1_; clear n0_ n1_; (try clear hb); (try clear hb2); (try clear hk); (try clear hi); (try clear ho0)))
    go_ret2
    exact ⟨by first | rfl | (simp [errW_none, errW_some] <;> rfl) | (simp [*, errW_none, errW_some] <;> rfl), by repeat (first | (with_reducible first | exact HB.out | apply below_alloc | apply pw_below_drewN | apply below_drew1) | exact HB.out)⟩

end Go.Proofs.Ytcgglamgemgeiaa.Q
/- FCorporalaw05FeatureCombines -/
namespace Go.Proofs.Ytcgglamgemgeiaa.Q
open Go.RowKit Go.Proofs.YtcgglamgemgeiaaW.PrintWords Go.Proofs.YtcgglamgemgeiaaW.PrintLast Go.Proofs.YtcgglamgemgeiaaW.PrintMore
attribute [local go_sem] max2_int min2_int max_two min_two max_three min_three max_four min_four   -- for this text's walks alone
set_option linter.unusedVariables false
set_option linter.unusedSimpArgs false

/-! ### corporalaw05_FeatureCombines: function 9 -/
def corporalaw05_FeatureCombines.f (k : Nat) (a0 : ByteArray) (a1 : ByteArray) : Option (Bool) := (corporalaw05_long.f k (([a0, a1] : List ByteArray))).bind fun t437 => (if t437 = true then (some true) else ((feature_Union.f k a0 a1).bind fun bt438 => ((corporaref05_Union.f k a0 a1).bind fun bt440 => ((feature_Intersect.f k a0 a1).bind fun bt442 => ((corporaref05_Intersect.f k a0 a1).bind fun bt444 => ((feature_Subset.f k a0 a1).bind fun bt446 => ((corporaref05_Subset.f k a0 a1).bind fun bt448 => (if bt438.1.toList = bt440.1.toList then (if bt438.2 = bt440.2 then (if bt442.1.toList = bt444.1.toList then (if bt442.2 = bt444.2 then (if (bt446.1 == bt448.1) = true then (if bt446.2 = bt448.2 then ((corporalaw05_awake.f k).bind fun t450 => (some t450)) else (some false)) else (some false)) else (some false)) else (some false)) else (some false)) else (some false)))))))))
theorem corporalaw05_FeatureCombines.mono : ∀ a0 a1 k, LeO (corporalaw05_FeatureCombines.f k a0 a1) (corporalaw05_FeatureCombines.f (k + 1) a0 a1) := by
  intro a0 a1 k
  unfold corporalaw05_FeatureCombines.f
  repeat' first
      | (with_reducible exact corporalaw05_awake.mono _)
      | (with_reducible exact corporalaw05_long.mono _ _)
      | (with_reducible exact corporaref05_Intersect.mono _ _ _)
      | (with_reducible exact corporaref05_Subset.mono _ _ _)
      | (with_reducible exact corporaref05_Union.mono _ _ _)
      | (with_reducible exact feature_Intersect.mono _ _ _)
      | (with_reducible exact feature_Subset.mono _ _ _)
      | (with_reducible exact feature_Union.mono _ _ _)
      | (with_reducible exact LeO.refl _)
      | (with_reducible exact LeO.none _)
      | (with_reducible refine LeO.ite ?_ ?_)
      | (with_reducible refine LeO.bind ?_ (fun _ => ?_))
      | exact corporalaw05_awake.mono _
      | exact corporalaw05_long.mono _ _
      | exact corporaref05_Intersect.mono _ _ _
      | exact corporaref05_Subset.mono _ _ _
      | exact corporaref05_Union.mono _ _ _
      | exact feature_Intersect.mono _ _ _
      | exact feature_Subset.mono _ _ _
      | exact feature_Union.mono _ _ _
      | exact LeO.none _
      | refine LeO.ite ?_ ?_
      | refine LeO.bind ?_ (fun _ => ?_)
set_option maxHeartbeats 8000000 in
set_option maxRecDepth 100000 in
theorem corporalaw05_FeatureCombines.calls (k : Nat) (a0 : ByteArray) (a1 : ByteArray) (r : Bool) (w : World) (h : corporalaw05_FeatureCombines.f k a0 a1 = some r) :
    Calls Try.prog 9 #[.string a0, .string a1] w fun e w' => e = .returned (.bool r) ∧ Below w.heap.size w w' := by
  have HB := Aside0.mk (Below.refl w.heap.size w)
  have H : ((corporalaw05_long.f k (([a0, a1] : List ByteArray))).bind fun t437 => (if t437 = true then (some true) else ((feature_Union.f k a0 a1).bind fun bt438 => ((corporaref05_Union.f k a0 a1).bind fun bt440 => ((feature_Intersect.f k a0 a1).bind fun bt442 => ((corporaref05_Intersect.f k a0 a1).bind fun bt444 => ((feature_Subset.f k a0 a1).bind fun bt446 => ((corporaref05_Subset.f k a0 a1).bind fun bt448 => (if bt438.1.toList = bt440.1.toList then (if bt438.2 = bt440.2 then (if bt442.1.toList = bt444.1.toList then (if bt442.2 = bt444.2 then (if (bt446.1 == bt448.1) = true then (if bt446.2 = bt448.2 then ((corporalaw05_awake.f k).bind fun t450 => (some t450)) else (some false)) else (some false)) else (some false)) else (some false)) else (some false)) else (some false)))))))))) = some r := h
  clear h
  obtain ⟨y434, hy434⟩ : ∃ y_ : List ByteArray, y_ = (([a0, a1] : List ByteArray)) := ⟨_, rfl⟩
  replace H : ((corporalaw05_long.f k y434).bind fun t437 => (if t437 = true then (some true) else ((feature_Union.f k a0 a1).bind fun bt438 => ((corporaref05_Union.f k a0 a1).bind fun bt440 => ((feature_Intersect.f k a0 a1).bind fun bt442 => ((corporaref05_Intersect.f k a0 a1).bind fun bt444 => ((feature_Subset.f k a0 a1).bind fun bt446 => ((corporaref05_Subset.f k a0 a1).bind fun bt448 => (if bt438.1.toList = bt440.1.toList then (if bt438.2 = bt440.2 then (if bt442.1.toList = bt444.1.toList then (if bt442.2 = bt444.2 then (if (bt446.1 == bt448.1) = true then (if bt446.2 = bt448.2 then ((corporalaw05_awake.f k).bind fun t450 => (some t450)) else (some false)) else (some false)) else (some false)) else (some false)) else (some false)) else (some false)))))))))) = some r := by first | (rw [hy434]; with_reducible exact H) | (have H2_ := (Option.bind_some _ _).symm.trans H; rw [hy434]; with_reducible exact H2_) | (have H2_ := (Option.bind_some _ _).symm.trans H; with_reducible exact H2_) | with_reducible exact H | (rw [hy434]; exact H) | exact H
  have Ny434 := Aside0.mk hy434
  clear hy434
  replace H := Option.bind_eq_some_iff.mp H
  obtain ⟨t437, A30, H⟩ := H
  replace H : (if t437 = true then (some true) else ((feature_Union.f k a0 a1).bind fun bt438 => ((corporaref05_Union.f k a0 a1).bind fun bt440 => ((feature_Intersect.f k a0 a1).bind fun bt442 => ((corporaref05_Intersect.f k a0 a1).bind fun bt444 => ((feature_Subset.f k a0 a1).bind fun bt446 => ((corporaref05_Subset.f k a0 a1).bind fun bt448 => (if bt438.1.toList = bt440.1.toList then (if bt438.2 = bt440.2 then (if bt442.1.toList = bt444.1.toList then (if bt442.2 = bt444.2 then (if (bt446.1 == bt448.1) = true then (if bt446.2 = bt448.2 then ((corporalaw05_awake.f k).bind fun t450 => (some t450)) else (some false)) else (some false)) else (some false)) else (some false)) else (some false)) else (some false))))))))) = some r := H
  have A3 := Aside0.mk A30
  clear A30
  by_cases c4 : t437 = true
  · subst c4
    have H1 : (some true) = some r := by rw [if_pos rfl] at H; exact H
    clear H
    have H := H1
    clear H1
    obtain rfl := Option.some.inj H
    go_enter Try.func9, Try.ntmps9
    go_wp2_with (first | ((with_reducible refine gate_dst (N := 19) rfl ?_); refine Kd.R_lit Kd.string _ 9 ?hg (N := 19) ?hd (xs := ([a0, a1] : List ByteArray)) (inner := [.string a0, .string a1]) (ok := fun _ => True) (okp := fun _ => True) ?hr ?hp (fun _ hk => hk) trivial (Below.refl _ _) (Nat.le_refl _) (by simp) ?_; (case hd => rfl); (case hg => rfl); (case hr => first | (go_simp; done) | (go_simp; rfl)); (case hp => exact (Reps.one (show Kd.M Kd.string _ _ _ a0 [.string a0] from rfl) (Reps.one (show Kd.M Kd.string _ _ _ a1 [.string a1] from rfl) (Reps.none _ _)))); intro v435 w5 ho6 hb hg_ hnew_; clear hg_ hnew_; (first | rw [← Ny434.out] at ho6 | (simp only [Int.reduceToNat] at ho6; rw [← Ny434.out] at ho6)); have n0_ := Aside0.mk (Kd.R_lower ho6 (below_size (by repeat (first | (with_reducible first | exact HB.out | apply below_alloc | apply pw_below_drewN | apply below_drew1) | exact HB.out)))); have n1_ := Aside0.mk (below_step (by repeat (first | (with_reducible first | exact HB.out | apply below_alloc | apply pw_below_drewN | apply below_drew1) | exact HB.out)) hb); clear HB; have HO436 := n0_; have HB := n1_; clear n0_ n1_; clear hb ho6; obtain ⟨Ao7, co7, eo7⟩ := Kd.R_slice HO436.out; subst eo7) | ((with_reducible refine gate_callee (f := 11) rfl ?_); refine goesL_ (some 20) rfl rfl Try.func11 (by kernel_rfl) rfl #[.slice Ao7 y434.length co7] rfl (by (try simp only [List.map_toArray, List.map_cons, List.map_nil]); first | done | rfl | (simp only [List.length_drop, List.length_take]; rfl)) ?_; (with_reducible refine (corporalaw05_long.calls k _ _ y434 true _ ?side1 ?side2 A3.out).mono ?_); (case side1 => repeat (first | exact (Kd.R_reads' HO436.out).2.2 | (with_reducible refine Kd.C_alloc ?_ _) | (with_reducible refine Kd.C_drewN ?_ _) | (with_reducible refine Kd.C_drew ?_))); (case side2 => exact (Kd.R_reads' HO436.out).2.1); rintro e w' ⟨rfl, ⟨nd, rfl⟩⟩; refine ⟨_, rfl, ?_⟩))
    go_ret
    exact ⟨by first | rfl | (simp [errW_none, errW_some] <;> rfl) | (simp [*, errW_none, errW_some] <;> rfl), by repeat (first | (with_reducible first | exact HB.out | apply below_alloc | apply pw_below_drewN | apply below_drew1) | exact HB.out)⟩
  · replace c4 := Bool.eq_false_iff.mpr c4
    subst c4
    have H1 : ((feature_Union.f k a0 a1).bind fun bt438 => ((corporaref05_Union.f k a0 a1).bind fun bt440 => ((feature_Intersect.f k a0 a1).bind fun bt442 => ((corporaref05_Intersect.f k a0 a1).bind fun bt444 => ((feature_Subset.f k a0 a1).bind fun bt446 => ((corporaref05_Subset.f k a0 a1).bind fun bt448 => (if bt438.1.toList = bt440.1.toList then (if bt438.2 = bt440.2 then (if bt442.1.toList = bt444.1.toList then (if bt442.2 = bt444.2 then (if (bt446.1 == bt448.1) = true then (if bt446.2 = bt448.2 then ((corporalaw05_awake.f k).bind fun t450 => (some t450)) else (some false)) else (some false)) else (some false)) else (some false)) else (some false)) else (some false)))))))) = some r := by rw [if_neg (show ¬ (false = true) by decide)] at H; exact H
    clear H
    have H := H1
    clear H1
    replace H := Option.bind_eq_some_iff.mp H
    obtain ⟨⟨t438, t439⟩, A80, H⟩ := H
    replace H : ((corporaref05_Union.f k a0 a1).bind fun bt440 => ((feature_Intersect.f k a0 a1).bind fun bt442 => ((corporaref05_Intersect.f k a0 a1).bind fun bt444 => ((feature_Subset.f k a0 a1).bind fun bt446 => ((corporaref05_Subset.f k a0 a1).bind fun bt448 => (if t438.toList = bt440.1.toList then (if t439 = bt440.2 then (if bt442.1.toList = bt444.1.toList then (if bt442.2 = bt444.2 then (if (bt446.1 == bt448.1) = true then (if bt446.2 = bt448.2 then ((corporalaw05_awake.f k).bind fun t450 => (some t450)) else (some false)) else (some false)) else (some false)) else (some false)) else (some false)) else (some false))))))) = some r := H
    have A8 := Aside0.mk A80
    clear A80
    replace H := Option.bind_eq_some_iff.mp H
    obtain ⟨⟨t440, t441⟩, A90, H⟩ := H
    replace H : ((feature_Intersect.f k a0 a1).bind fun bt442 => ((corporaref05_Intersect.f k a0 a1).bind fun bt444 => ((feature_Subset.f k a0 a1).bind fun bt446 => ((corporaref05_Subset.f k a0 a1).bind fun bt448 => (if t438.toList = t440.toList then (if t439 = t441 then (if bt442.1.toList = bt444.1.toList then (if bt442.2 = bt444.2 then (if (bt446.1 == bt448.1) = true then (if bt446.2 = bt448.2 then ((corporalaw05_awake.f k).bind fun t450 => (some t450)) else (some false)) else (some false)) else (some false)) else (some false)) else (some false)) else (some false)))))) = some r := H
    have A9 := Aside0.mk A90
    clear A90
    replace H := Option.bind_eq_some_iff.mp H
    obtain ⟨⟨t442, t443⟩, A100, H⟩ := H
    replace H : ((corporaref05_Intersect.f k a0 a1).bind fun bt444 => ((feature_Subset.f k a0 a1).bind fun bt446 => ((corporaref05_Subset.f k a0 a1).bind fun bt448 => (if t438.toList = t440.toList then (if t439 = t441 then (if t442.toList = bt444.1.toList then (if t443 = bt444.2 then (if (bt446.1 == bt448.1) = true then (if bt446.2 = bt448.2 then ((corporalaw05_awake.f k).bind fun t450 => (some t450)) else (some false)) else (some false)) else (some false)) else (some false)) else (some false)) else (some false))))) = some r := H
    have A10 := Aside0.mk A100
    clear A100
    replace H := Option.bind_eq_some_iff.mp H
    obtain ⟨⟨t444, t445⟩, A110, H⟩ := H
    replace H : ((feature_Subset.f k a0 a1).bind fun bt446 => ((corporaref05_Subset.f k a0 a1).bind fun bt448 => (if t438.toList = t440.toList then (if t439 = t441 then (if t442.toList = t444.toList then (if t443 = t445 then (if (bt446.1 == bt448.1) = true then (if bt446.2 = bt448.2 then ((corporalaw05_awake.f k).bind fun t450 => (some t450)) else (some false)) else (some false)) else (some false)) else (some false)) else (some false)) else (some false)))) = some r := H
    have A11 := Aside0.mk A110
    clear A110
    replace H := Option.bind_eq_some_iff.mp H
    obtain ⟨⟨t446, t447⟩, A120, H⟩ := H
    replace H : ((corporaref05_Subset.f k a0 a1).bind fun bt448 => (if t438.toList = t440.toList then (if t439 = t441 then (if t442.toList = t444.toList then (if t443 = t445 then (if (t446 == bt448.1) = true then (if t447 = bt448.2 then ((corporalaw05_awake.f k).bind fun t450 => (some t450)) else (some false)) else (some false)) else (some false)) else (some false)) else (some false)) else (some false))) = some r := H
    have A12 := Aside0.mk A120
    clear A120
    replace H := Option.bind_eq_some_iff.mp H
    obtain ⟨⟨t448, t449⟩, A130, H⟩ := H
    replace H : (if t438.toList = t440.toList then (if t439 = t441 then (if t442.toList = t444.toList then (if t443 = t445 then (if (t446 == t448) = true then (if t447 = t449 then ((corporalaw05_awake.f k).bind fun t450 => (some t450)) else (some false)) else (some false)) else (some false)) else (some false)) else (some false)) else (some false)) = some r := H
    have A13 := Aside0.mk A130
    clear A130
    by_cases c14 : t438.toList = t440.toList
    · rw [if_pos c14] at H
      have c14b0 : (t438.toList == t440.toList) = true := beq_iff_eq.mpr c14
      have c14b1 : (t438.toList != t440.toList) = false := bne_eq_false_iff_eq.mpr c14
      clear c14
      by_cases c15 : t439 = t441
      · rw [if_pos c15] at H
        have c15b0 : (t439 == t441) = true := beq_iff_eq.mpr c15
        have c15b1 : (t439 != t441) = false := bne_eq_false_iff_eq.mpr c15
        clear c15
        by_cases c16 : t442.toList = t444.toList
        · rw [if_pos c16] at H
          have c16b0 : (t442.toList == t444.toList) = true := beq_iff_eq.mpr c16
          have c16b1 : (t442.toList != t444.toList) = false := bne_eq_false_iff_eq.mpr c16
          clear c16
          by_cases c17 : t443 = t445
          · rw [if_pos c17] at H
            have c17b0 : (t443 == t445) = true := beq_iff_eq.mpr c17
            have c17b1 : (t443 != t445) = false := bne_eq_false_iff_eq.mpr c17
            clear c17
            by_cases c18 : (t446 == t448) = true
            · rw [if_pos c18] at H
              have c18b0 : (t446 == t448) = true := c18
              (try (have c18b1 : decide (t446 = t448) = true := by simpa using c18))
              (try (have c18b2 : (t446 == t448) = true := by simpa using c18))
              clear c18
              by_cases c19 : t447 = t449
              · rw [if_pos c19] at H
                have c19b0 : (t447 == t449) = true := beq_iff_eq.mpr c19
                have c19b1 : (t447 != t449) = false := bne_eq_false_iff_eq.mpr c19
                clear c19
                replace H := Option.bind_eq_some_iff.mp H
                obtain ⟨t450, A200, H⟩ := H
                replace H : (some t450) = some r := H
                have A20 := Aside0.mk A200
                clear A200
                obtain rfl := Option.some.inj H
                go_enter Try.func9, Try.ntmps9
                go_wp2_with (first | ((with_reducible refine gate_dst (N := 19) rfl ?_); refine Kd.R_lit Kd.string _ 9 ?hg (N := 19) ?hd (xs := ([a0, a1] : List ByteArray)) (inner := [.string a0, .string a1]) (ok := fun _ => True) (okp := fun _ => True) ?hr ?hp (fun _ hk => hk) trivial (Below.refl _ _) (Nat.le_refl _) (by simp) ?_; (case hd => rfl); (case hg => rfl); (case hr => first | (go_simp; done) | (go_simp; rfl)); (case hp => exact (Reps.one (show Kd.M Kd.string _ _ _ a0 [.string a0] from rfl) (Reps.one (show Kd.M Kd.string _ _ _ a1 [.string a1] from rfl) (Reps.none _ _)))); intro v435 w21 ho22 hb hg_ hnew_; clear hg_ hnew_; (first | rw [← Ny434.out] at ho22 | (simp only [Int.reduceToNat] at ho22; rw [← Ny434.out] at ho22)); have n0_ := Aside0.mk (Kd.R_lower ho22 (below_size (by repeat (first | (with_reducible first | exact HB.out | apply below_alloc | apply pw_below_drewN | apply below_drew1) | exact HB.out)))); have n1_ := Aside0.mk (below_step (by repeat (first | (with_reducible first | exact HB.out | apply below_alloc | apply pw_below_drewN | apply below_drew1) | exact HB.out)) hb); clear HB; have HO436 := n0_; have HB := n1_; clear n0_ n1_; clear hb ho22; obtain ⟨Ao23, co23, eo23⟩ := Kd.R_slice HO436.out; subst eo23) | ((with_reducible refine gate_callee (f := 11) rfl ?_); refine goesL_ (some 20) rfl rfl Try.func11 (by kernel_rfl) rfl #[.slice Ao23 y434.length co23] rfl (by (try simp only [List.map_toArray, List.map_cons, List.map_nil]); first | done | rfl | (simp only [List.length_drop, List.length_take]; rfl)) ?_; (with_reducible refine (corporalaw05_long.calls k _ _ y434 false _ ?side1 ?side2 A3.out).mono ?_); (case side1 => repeat (first | exact (Kd.R_reads' HO436.out).2.2 | (with_reducible refine Kd.C_alloc ?_ _) | (with_reducible refine Kd.C_drewN ?_ _) | (with_reducible refine Kd.C_drew ?_))); (case side2 => exact (Kd.R_reads' HO436.out).2.1); rintro e w' ⟨rfl, ⟨nd, rfl⟩⟩; refine ⟨_, rfl, ?_⟩) | ((with_reducible refine gate_callee (f := 20) rfl ?_); refine goesL_ (some 24) rfl rfl Try.func20 (by kernel_rfl) rfl #[.string a0, .string a1] rfl (by (try simp only [List.map_toArray, List.map_cons, List.map_nil]); first | done | rfl | (simp only [List.length_drop, List.length_take]; rfl)) ?_; (with_reducible refine (feature_Union.calls k a0 a1 t438 t439 _ A8.out).mono ?_); rintro e w24 ⟨rfl, hb⟩; refine ⟨_, rfl, ?_⟩; have n0_ := Aside0.mk (Kd.R_below (by (with_reducible repeat (first | apply Kd.R_alloc | apply Kd.R_drewN | apply Kd.R_drew)); exact HO436.out) hb); have n1_ := Aside0.mk (below_step (by repeat (first | (with_reducible first | exact HB.out | apply below_alloc | apply pw_below_drewN | apply below_drew1) | exact HB.out)) hb); clear HO436; clear HB; have HO436 := n0_; have HB := n1_; clear n0_ n1_; (try clear hb); (try clear hb2); (try clear hk); (try clear hi)) | ((with_reducible refine gate_callee (f := 22) rfl ?_); refine goesL_ (some 30) rfl rfl Try.func22 (by kernel_rfl) rfl #[.string a0, .string a1] rfl (by (try simp only [List.map_toArray, List.map_cons, List.map_nil]); first | done | rfl | (simp only [List.length_drop, List.length_take]; rfl)) ?_; (with_reducible refine (corporaref05_Union.calls k a0 a1 t440 t441 _ A9.out).mono ?_); rintro e w25 ⟨rfl, hb⟩; refine ⟨_, rfl, ?_⟩; have n0_ := Aside0.mk (Kd.R_below (by (with_reducible repeat (first | apply Kd.R_alloc | apply Kd.R_drewN | apply Kd.R_drew)); exact HO436.out) hb); have n1_ := Aside0.mk (below_step (by repeat (first | (with_reducible first | exact HB.out | apply below_alloc | apply pw_below_drewN | apply below_drew1) | exact HB.out)) hb); clear HO436; clear HB; have HO436 := n0_; have HB := n1_; clear n0_ n1_; (try clear hb); (try clear hb2); (try clear hk); (try clear hi)) | ((with_reducible refine gate_callee (f := 21) rfl ?_); refine goesL_ (some 36) rfl rfl Try.func21 (by kernel_rfl) rfl #[.string a0, .string a1] rfl (by (try simp only [List.map_toArray, List.map_cons, List.map_nil]); first | done | rfl | (simp only [List.length_drop, List.length_take]; rfl)) ?_; (with_reducible refine (feature_Intersect.calls k a0 a1 t442 t443 _ A10.out).mono ?_); rintro e w26 ⟨rfl, hb⟩; refine ⟨_, rfl, ?_⟩; have n0_ := Aside0.mk (Kd.R_below (by (with_reducible repeat (first | apply Kd.R_alloc | apply Kd.R_drewN | apply Kd.R_drew)); exact HO436.out) hb); have n1_ := Aside0.mk (below_step (by repeat (first | (with_reducible first | exact HB.out | apply below_alloc | apply pw_below_drewN | apply below_drew1) | exact HB.out)) hb); clear HO436; clear HB; have HO436 := n0_; have HB := n1_; clear n0_ n1_; (try clear hb); (try clear hb2); (try clear hk); (try clear hi)) | ((with_reducible refine gate_callee (f := 23) rfl ?_); refine goesL_ (some 42) rfl rfl Try.func23 (by kernel_rfl) rfl #[.string a0, .string a1] rfl (by (try simp only [List.map_toArray, List.map_cons, List.map_nil]); first | done | rfl | (simp only [List.length_drop, List.length_take]; rfl)) ?_; (with_reducible refine (corporaref05_Intersect.calls k a0 a1 t444 t445 _ A11.out).mono ?_); rintro e w27 ⟨rfl, hb⟩; refine ⟨_, rfl, ?_⟩; have n0_ := Aside0.mk (Kd.R_below (by (with_reducible repeat (first | apply Kd.R_alloc | apply Kd.R_drewN | apply Kd.R_drew)); exact HO436.out) hb); have n1_ := Aside0.mk (below_step (by repeat (first | (with_reducible first | exact HB.out | apply below_alloc | apply pw_below_drewN | apply below_drew1) | exact HB.out)) hb); clear HO436; clear HB; have HO436 := n0_; have HB := n1_; clear n0_ n1_; (try clear hb); (try clear hb2); (try clear hk); (try clear hi)) | ((with_reducible refine gate_callee (f := 24) rfl ?_); refine goesL_ (some 48) rfl rfl Try.func24 (by kernel_rfl) rfl #[.string a0, .string a1] rfl (by (try simp only [List.map_toArray, List.map_cons, List.map_nil]); first | done | rfl | (simp only [List.length_drop, List.length_take]; rfl)) ?_; (with_reducible refine (feature_Subset.calls k a0 a1 t446 t447 _ A12.out).mono ?_); rintro e w28 ⟨rfl, hb⟩; refine ⟨_, rfl, ?_⟩; have n0_ := Aside0.mk (Kd.R_below (by (with_reducible repeat (first | apply Kd.R_alloc | apply Kd.R_drewN | apply Kd.R_drew)); exact HO436.out) hb); have n1_ := Aside0.mk (below_step (by repeat (first | (with_reducible first | exact HB.out | apply below_alloc | apply pw_below_drewN | apply below_drew1) | exact HB.out)) hb); clear HO436; clear HB; have HO436 := n0_; have HB := n1_; clear n0_ n1_; (try clear hb); (try clear hb2); (try clear hk); (try clear hi)) | ((with_reducible refine gate_callee (f := 25) rfl ?_); refine goesL_ (some 54) rfl rfl Try.func25 (by kernel_rfl) rfl #[.string a0, .string a1] rfl (by (try simp only [List.map_toArray, List.map_cons, List.map_nil]); first | done | rfl | (simp only [List.length_drop, List.length_take]; rfl)) ?_; (with_reducible refine (corporaref05_Subset.calls k a0 a1 t448 t449 _ A13.out).mono ?_); rintro e w29 ⟨rfl, hb⟩; refine ⟨_, rfl, ?_⟩; have n0_ := Aside0.mk (Kd.R_below (by (with_reducible repeat (first | apply Kd.R_alloc | apply Kd.R_drewN | apply Kd.R_drew)); exact HO436.out) hb); have n1_ := Aside0.mk (below_step (by repeat (first | (with_reducible first | exact HB.out | apply below_alloc | apply pw_below_drewN | apply below_drew1) | exact HB.out)) hb); clear HO436; clear HB; have HO436 := n0_; have HB := n1_; clear n0_ n1_; (try clear hb); (try clear hb2); (try clear hk); (try clear hi)) | (go_at_call 15; (with_reducible refine (corporalaw05_awake.calls k  t450 _ A20.out).mono ?_); rintro e w30 ⟨rfl, hb⟩; have n0_ := Aside0.mk (Kd.R_below (by (with_reducible repeat (first | apply Kd.R_alloc | apply Kd.R_drewN | apply Kd.R_drew)); exact HO436.out) hb); have n1_ := Aside0.mk (below_step (by repeat (first | (with_reducible first | exact HB.out | apply below_alloc | apply pw_below_drewN | apply below_drew1) | exact HB.out)) hb); clear HO436; clear HB; have HO436 := n0_; have HB := n1_; clear n0_ n1_; (try clear hb); (try clear hb2); (try clear hk); (try clear hi)))
                go_ret
                exact ⟨by first | rfl | (simp [errW_none, errW_some] <;> rfl) | (simp [*, errW_none, errW_some] <;> rfl), by repeat (first | (with_reducible first | exact HB.out | apply below_alloc | apply pw_below_drewN | apply below_drew1) | exact HB.out)⟩
              · rw [if_neg c19] at H
                have c19b0 : (t447 == t449) = false := beq_eq_false_iff_ne.mpr c19
                have c19b1 : (t447 != t449) = true := bne_iff_ne.mpr c19
                obtain rfl := Option.some.inj H
                go_enter Try.func9, Try.ntmps9
                go_wp2_with (first | ((with_reducible refine gate_dst (N := 19) rfl ?_); refine Kd.R_lit Kd.string _ 9 ?hg (N := 19) ?hd (xs := ([a0, a1] : List ByteArray)) (inner := [.string a0, .string a1]) (ok := fun _ => True) (okp := fun _ => True) ?hr ?hp (fun _ hk => hk) trivial (Below.refl _ _) (Nat.le_refl _) (by simp) ?_; (case hd => rfl); (case hg => rfl); (case hr => first | (go_simp; done) | (go_simp; rfl)); (case hp => exact (Reps.one (show Kd.M Kd.string _ _ _ a0 [.string a0] from rfl) (Reps.one (show Kd.M Kd.string _ _ _ a1 [.string a1] from rfl) (Reps.none _ _)))); intro v435 w31 ho32 hb hg_ hnew_; clear hg_ hnew_; (first | rw [← Ny434.out] at ho32 | (simp only [Int.reduceToNat] at ho32; rw [← Ny434.out] at ho32)); have n0_ := Aside0.mk (Kd.R_lower ho32 (below_size (by repeat (first | (with_reducible first | exact HB.out | apply below_alloc | apply pw_below_drewN | apply below_drew1) | exact HB.out)))); have n1_ := Aside0.mk (below_step (by repeat (first | (with_reducible first | exact HB.out | apply below_alloc | apply pw_below_drewN | apply below_drew1) | exact HB.out)) hb); clear HB; have HO436 := n0_; have HB := n1_; clear n0_ n1_; clear hb ho32; obtain ⟨Ao33, co33, eo33⟩ := Kd.R_slice HO436.out; subst eo33) | ((with_reducible refine gate_callee (f := 11) rfl ?_); refine goesL_ (some 20) rfl rfl Try.func11 (by kernel_rfl) rfl #[.slice Ao33 y434.length co33] rfl (by (try simp only [List.map_toArray, List.map_cons, List.map_nil]); first | done | rfl | (simp only [List.length_drop, List.length_take]; rfl)) ?_; (with_reducible refine (corporalaw05_long.calls k _ _ y434 false _ ?side1 ?side2 A3.out).mono ?_); (case side1 => repeat (first | exact (Kd.R_reads' HO436.out).2.2 | (with_reducible refine Kd.C_alloc ?_ _) | (with_reducible refine Kd.C_drewN ?_ _) | (with_reducible refine Kd.C_drew ?_))); (case side2 => exact (Kd.R_reads' HO436.out).2.1); rintro e w' ⟨rfl, ⟨nd, rfl⟩⟩; refine ⟨_, rfl, ?_⟩) | ((with_reducible refine gate_callee (f := 20) rfl ?_); refine goesL_ (some 24) rfl rfl Try.func20 (by kernel_rfl) rfl #[.string a0, .string a1] rfl (by (try simp only [List.map_toArray, List.map_cons, List.map_nil]); first | done | rfl | (simp only [List.length_drop, List.length_take]; rfl)) ?_; (with_reducible refine (feature_Union.calls k a0 a1 t438 t439 _ A8.out).mono ?_); rintro e w34 ⟨rfl, hb⟩; refine ⟨_, rfl, ?_⟩; have n0_ := Aside0.mk (Kd.R_below (by (with_reducible repeat (first | apply Kd.R_alloc | apply Kd.R_drewN | apply Kd.R_drew)); exact HO436.out) hb); have n1_ := Aside0.mk (below_step (by repeat (first | (with_reducible first | exact HB.out | apply below_alloc | apply pw_below_drewN | apply below_drew1) | exact HB.out)) hb); clear HO436; clear HB; have HO436 := n0_; have HB := n1_; clear n0_ n1_; (try clear hb); (try clear hb2); (try clear hk); (try clear hi)) | ((with_reducible refine gate_callee (f := 22) rfl ?_); refine goesL_ (some 30) rfl rfl Try.func22 (by kernel_rfl) rfl #[.string a0, .string a1] rfl (by (try simp only [List.map_toArray, List.map_cons, List.map_nil]); first | done | rfl | (simp only [List.length_drop, List.length_take]; rfl)) ?_; (with_reducible refine (corporaref05_Union.calls k a0 a1 t440 t441 _ A9.out).mono ?_); rintro e w35 ⟨rfl, hb⟩; refine ⟨_, rfl, ?_⟩; have n0_ := Aside0.mk (Kd.R_below (by (with_reducible repeat (first | apply Kd.R_alloc | apply Kd.R_drewN | apply Kd.R_drew)); exact HO436.out) hb); have n1_ := Aside0.mk (below_step (by repeat (first | (with_reducible first | exact HB.out | apply below_alloc | apply pw_below_drewN | apply below_drew1) | exact HB.out)) hb); clear HO436; clear HB; have HO436 := n0_; have HB := n1_; clear n0_ n1_; (try clear hb); (try clear hb2); (try clear hk); (try clear hi)) | ((with_reducible refine gate_callee (f := 21) rfl ?_); refine goesL_ (some 36) rfl rfl Try.func21 (by kernel_rfl) rfl #[.string a0, .string a1] rfl (by (try simp only [List.map_toArray, List.map_cons, List.map_nil]); first | done | rfl | (simp only [List.length_drop, List.length_take]; rfl)) ?_; (with_reducible refine (feature_Intersect.calls k a0 a1 t442 t443 _ A10.out).mono ?_); rintro e w36 ⟨rfl, hb⟩; refine ⟨_, rfl, ?_⟩; have n0_ := Aside0.mk (Kd.R_below (by (with_reducible repeat (first | apply Kd.R_alloc | apply Kd.R_drewN | apply Kd.R_drew)); exact HO436.out) hb); have n1_ := Aside0.mk (below_step (by repeat (first | (with_reducible first | exact HB.out | apply below_alloc | apply pw_below_drewN | apply below_drew1) | exact HB.out)) hb); clear HO436; clear HB; have HO436 := n0_; have HB := n1_; clear n0_ n1_; (try clear hb); (try clear hb2); (try clear hk); (try clear hi)) | ((with_reducible refine gate_callee (f := 23) rfl ?_); refine goesL_ (some 42) rfl rfl Try.func23 (by kernel_rfl) rfl #[.string a0, .string a1] rfl (by (try simp only [List.map_toArray, List.map_cons, List.map_nil]); first | done | rfl | (simp only [List.length_drop, List.length_take]; rfl)) ?_; (with_reducible refine (corporaref05_Intersect.calls k a0 a1 t444 t445 _ A11.out).mono ?_); rintro e w37 ⟨rfl, hb⟩; refine ⟨_, rfl, ?_⟩; have n0_ := Aside0.mk (Kd.R_below (by (with_reducible repeat (first | apply Kd.R_alloc | apply Kd.R_drewN | apply Kd.R_drew)); exact HO436.out) hb); have n1_ := Aside0.mk (below_step (by repeat (first | (with_reducible first | exact HB.out | apply below_alloc | apply pw_below_drewN | apply below_drew1) | exact HB.out)) hb); clear HO436; clear HB; have HO436 := n0_; have HB := n1_; clear n0_ n1_; (try clear hb); (try clear hb2); (try clear hk); (try clear hi)) | ((with_reducible refine gate_callee (f := 24) rfl ?_); refine goesL_ (some 48) rfl rfl Try.func24 (by kernel_rfl) rfl #[.string a0, .string a1] rfl (by (try simp only [List.map_toArray, List.map_cons, List.map_nil]); first | done | rfl | (simp only [List.length_drop, List.length_take]; rfl)) ?_; (with_reducible refine (feature_Subset.calls k a0 a1 t446 t447 _ A12.out).mono ?_); rintro e w38 ⟨rfl, hb⟩; refine ⟨_, rfl, ?_⟩; have n0_ := Aside0.mk (Kd.R_below (by (with_reducible repeat (first | apply Kd.R_alloc | apply Kd.R_drewN | apply Kd.R_drew)); exact HO436.out) hb); have n1_ := Aside0.mk (below_step (by repeat (first | (with_reducible first | exact HB.out | apply below_alloc | apply pw_below_drewN | apply below_drew1) | exact HB.out)) hb); clear HO436; clear HB; have HO436 := n0_; have HB := n1_; clear n0_ n1_; (try clear hb); (try clear hb2); (try clear hk); (try clear hi)) | ((with_reducible refine gate_callee (f := 25) rfl ?_); refine goesL_ (some 54) rfl rfl Try.func25 (by kernel_rfl) rfl #[.string a0, .string a1] rfl (by (try simp only [List.map_toArray, List.map_cons, List.map_nil]); first | done | rfl | (simp only [List.length_drop, List.length_take]; rfl)) ?_; (with_reducible refine (corporaref05_Subset.calls k a0 a1 t448 t449 _ A13.out).mono ?_); rintro e w39 ⟨rfl, hb⟩; refine ⟨_, rfl, ?_⟩; have n0_ := Aside0.mk (Kd.R_below (by (with_reducible repeat (first | apply Kd.R_alloc | apply Kd.R_drewN | apply Kd.R_drew)); exact HO436.out) hb); have n1_ := Aside0.mk (below_step (by repeat (first | (with_reducible first | exact HB.out | apply below_alloc | apply pw_below_drewN | apply below_drew1) | exact HB.out)) hb); clear HO436; clear HB; have HO436 := n0_; have HB := n1_; clear n0_ n1_; (try clear hb); (try clear hb2); (try clear hk); (try clear hi)))
                go_ret
                exact ⟨by first | rfl | (simp [errW_none, errW_some] <;> rfl) | (simp [*, errW_none, errW_some] <;> rfl), by repeat (first | (with_reducible first | exact HB.out | apply below_alloc | apply pw_below_drewN | apply below_drew1) | exact HB.out)⟩
            · rw [if_neg c18] at H
              have c18b0 : (t446 == t448) = false := by simpa using c18
              (try (have c18b1 : decide (t446 = t448) = false := by simpa using c18))
              (try (have c18b2 : (t446 == t448) = false := by simpa using c18))
              (try (have c18b3 : ¬ (t446 = t448) := by simpa using c18))
              clear c18
              obtain rfl := Option.some.inj H
              go_enter Try.func9, Try.ntmps9
              go_wp2_with (first | ((with_reducible refine gate_dst (N := 19) rfl ?_); refine Kd.R_lit Kd.string _ 9 ?hg (N := 19) ?hd (xs := ([a0, a1] : List ByteArray)) (inner := [.string a0, .string a1]) (ok := fun _ => True) (okp := fun _ => True) ?hr ?hp (fun _ hk => hk) trivial (Below.refl _ _) (Nat.le_refl _) (by simp) ?_; (case hd => rfl); (case hg => rfl); (case hr => first | (go_simp; done) | (go_simp; rfl)); (case hp => exact (Reps.one (show Kd.M Kd.string _ _ _ a0 [.string a0] from rfl) (Reps.one (show Kd.M Kd.string _ _ _ a1 [.string a1] from rfl) (Reps.none _ _)))); intro v435 w40 ho41 hb hg_ hnew_; clear hg_ hnew_; (first | rw [← Ny434.out] at ho41 | (simp only [Int.reduceToNat] at ho41; rw [← Ny434.out] at ho41)); have n0_ := Aside0.mk (Kd.R_lower ho41 (below_size (by repeat (first | (with_reducible first | exact HB.out | apply below_alloc | apply pw_below_drewN | apply below_drew1) | exact HB.out)))); have n1_ := Aside0.mk (below_step (by repeat (first | (with_reducible first | exact HB.out | apply below_alloc | apply pw_below_drewN | apply below_drew1) | exact HB.out)) hb); clear HB; have HO436 := n0_; have HB := n1_; clear n0_ n1_; clear hb ho41; obtain ⟨Ao42, co42, eo42⟩ := Kd.R_slice HO436.out; subst eo42) | ((with_reducible refine gate_callee (f := 11) rfl ?_); refine goesL_ (some 20) rfl rfl Try.func11 (by kernel_rfl) rfl #[.slice Ao42 y434.length co42] rfl (by (try simp only [List.map_toArray, List.map_cons, List.map_nil]); first | done | rfl | (simp only [List.length_drop, List.length_take]; rfl)) ?_; (with_reducible refine (corporalaw05_long.calls k _ _ y434 false _ ?side1 ?side2 A3.out).mono ?_); (case side1 => repeat (first | exact (Kd.R_reads' HO436.out).2.2 | (with_reducible refine Kd.C_alloc ?_ _) | (with_reducible refine Kd.C_drewN ?_ _) | (with_reducible refine Kd.C_drew ?_))); (case side2 => exact (Kd.R_reads' HO436.out).2.1); rintro e w' ⟨rfl, ⟨nd, rfl⟩⟩; refine ⟨_, rfl, ?_⟩) | ((with_reducible refine gate_callee (f := 20) rfl ?_); refine goesL_ (some 24) rfl rfl Try.func20 (by kernel_rfl) rfl #[.string a0, .string a1] rfl (by (try simp only [List.map_toArray, List.map_cons, List.map_nil]); first | done | rfl | (simp only [List.length_drop, List.length_take]; rfl)) ?_; (with_reducible refine (feature_Union.calls k a0 a1 t438 t439 _ A8.out).mono ?_); rintro e w43 ⟨rfl, hb⟩; refine ⟨_, rfl, ?_⟩; have n0_ := Aside0.mk (Kd.R_below (by (with_reducible repeat (first | apply Kd.R_alloc | apply Kd.R_drewN | apply Kd.R_drew)); exact HO436.out) hb); have n1_ := Aside0.mk (below_step (by repeat (first | (with_reducible first | exact HB.out | apply below_alloc | apply pw_below_drewN | apply below_drew1) | exact HB.out)) hb); clear HO436; clear HB; have HO436 := n0_; have HB := n1_; clear n0_ n1_; (try clear hb); (try clear hb2); (try clear hk); (try clear hi)) | ((with_reducible refine gate_callee (f := 22) rfl ?_); refine goesL_ (some 30) rfl rfl Try.func22 (by kernel_rfl) rfl #[.string a0, .string a1] rfl (by (try simp only [List.map_toArray, List.map_cons, List.map_nil]); first | done | rfl | (simp only [List.length_drop, List.length_take]; rfl)) ?_; (with_reducible refine (corporaref05_Union.calls k a0 a1 t440 t441 _ A9.out).mono ?_); rintro e w44 ⟨rfl, hb⟩; refine ⟨_, rfl, ?_⟩; have n0_ := Aside0.mk (Kd.R_below (by (with_reducible repeat (first | apply Kd.R_alloc | apply Kd.R_drewN | apply Kd.R_drew)); exact HO436.out) hb); have n1_ := Aside0.mk (below_step (by repeat (first | (with_reducible first | exact HB.out | apply below_alloc | apply pw_below_drewN | apply below_drew1) | exact HB.out)) hb); clear HO436; clear HB; have HO436 := n0_; have HB := n1_; clear n0_ n1_; (try clear hb); (try clear hb2); (try clear hk); (try clear hi)) | ((with_reducible refine gate_callee (f := 21) rfl ?_); refine goesL_ (some 36) rfl rfl Try.func21 (by kernel_rfl) rfl #[.string a0, .string a1] rfl (by (try simp only [List.map_toArray, List.map_cons, List.map_nil]); first | done | rfl | (simp only [List.length_drop, List.length_take]; rfl)) ?_; (with_reducible refine (feature_Intersect.calls k a0 a1 t442 t443 _ A10.out).mono ?_); rintro e w45 ⟨rfl, hb⟩; refine ⟨_, rfl, ?_⟩; have n0_ := Aside0.mk (Kd.R_below (by (with_reducible repeat (first | apply Kd.R_alloc | apply Kd.R_drewN | apply Kd.R_drew)); exact HO436.out) hb); have n1_ := Aside0.mk (below_step (by repeat (first | (with_reducible first | exact HB.out | apply below_alloc | apply pw_below_drewN | apply below_drew1) | exact HB.out)) hb); clear HO436; clear HB; have HO436 := n0_; have HB := n1_; clear n0_ n1_; (try clear hb); (try clear hb2); (try clear hk); (try clear hi)) | ((with_reducible refine gate_callee (f := 23) rfl ?_); refine goesL_ (some 42) rfl rfl Try.func23 (by kernel_rfl) rfl #[.string a0, .string a1] rfl (by (try simp only [List.map_toArray, List.map_cons, List.map_nil]); first | done | rfl | (simp only [List.length_drop, List.length_take]; rfl)) ?_; (with_reducible refine (corporaref05_Intersect.calls k a0 a1 t444 t445 _ A11.out).mono ?_); rintro e w46 ⟨rfl, hb⟩; refine ⟨_, rfl, ?_⟩; have n0_ := Aside0.mk (Kd.R_below (by (with_reducible repeat (first | apply Kd.R_alloc | apply Kd.R_drewN | apply Kd.R_drew)); exact HO436.out) hb); have n1_ := Aside0.mk (below_step (by repeat (first | (with_reducible first | exact HB.out | apply below_alloc | apply pw_below_drewN | apply below_drew1) | exact HB.out)) hb); clear HO436; clear HB; have HO436 := n0_; have HB := n1_; clear n0_ n1_; (try clear hb); (try clear hb2); (try clear hk); (try clear hi)) | ((with_reducible refine gate_callee (f := 24) rfl ?_); refine goesL_ (some 48) rfl rfl Try.func24 (by kernel_rfl) rfl #[.string a0, .string a1] rfl (by (try simp only [List.map_toArray, List.map_cons, List.map_nil]); first | done | rfl | (simp only [List.length_drop, List.length_take]; rfl)) ?_; (with_reducible refine (feature_Subset.calls k a0 a1 t446 t447 _ A12.out).mono ?_); rintro e w47 ⟨rfl, hb⟩; refine ⟨_, rfl, ?_⟩; have n0_ := Aside0.mk (Kd.R_below (by (with_reducible repeat (first | apply Kd.R_alloc | apply Kd.R_drewN | apply Kd.R_drew)); exact HO436.out) hb); have n1_ := Aside0.mk (below_step (by repeat (first | (with_reducible first | exact HB.out | apply below_alloc | apply pw_below_drewN | apply below_drew1) | exact HB.out)) hb); clear HO436; clear HB; have HO436 := n0_; have HB := n1_; clear n0_ n1_; (try clear hb); (try clear hb2); (try clear hk); (try clear hi)) | ((with_reducible refine gate_callee (f := 25) rfl ?_); refine goesL_ (some 54) rfl rfl Try.func25 (by kernel_rfl) rfl #[.string a0, .string a1] rfl (by (try simp only [List.map_toArray, List.map_cons, List.map_nil]); first | done | rfl | (simp only [List.length_drop, List.length_take]; rfl)) ?_; (with_reducible refine (corporaref05_Subset.calls k a0 a1 t448 t449 _ A13.out).mono ?_); rintro e w48 ⟨rfl, hb⟩; refine ⟨_, rfl, ?_⟩; have n0_ := Aside0.mk (Kd.R_below (by (with_reducible repeat (first | apply Kd.R_alloc | apply Kd.R_drewN | apply Kd.R_drew)); exact HO436.out) hb); have n1_ := Aside0.mk (below_step (by repeat (first | (with_reducible first | exact HB.out | apply below_alloc | apply pw_below_drewN | apply below_drew1) | exact HB.out)) hb); clear HO436; clear HB; have HO436 := n0_; have HB := n1_; clear n0_ n1_; (try clear hb); (try clear hb2); (try clear hk); (try clear hi)))
              go_ret
              exact ⟨by first | rfl | (simp [errW_none, errW_some] <;> rfl) | (simp [*, errW_none, errW_some] <;> rfl), by repeat (first | (with_reducible first | exact HB.out | apply below_alloc | apply pw_below_drewN | apply below_drew1) | exact HB.out)⟩
          · rw [if_neg c17] at H
            have c17b0 : (t443 == t445) = false := beq_eq_false_iff_ne.mpr c17
            have c17b1 : (t443 != t445) = true := bne_iff_ne.mpr c17
            obtain rfl := Option.some.inj H
            go_enter Try.func9, Try.ntmps9
            go_wp2_with (first | ((with_reducible refine gate_dst (N := 19) rfl ?_); refine Kd.R_lit Kd.string _ 9 ?hg (N := 19) ?hd (xs := ([a0, a1] : List ByteArray)) (inner := [.string a0, .string a1]) (ok := fun _ => True) (okp := fun _ => True) ?hr ?hp (fun _ hk => hk) trivial (Below.refl _ _) (Nat.le_refl _) (by simp) ?_; (case hd => rfl); (case hg => rfl); (case hr => first | (go_simp; done) | (go_simp; rfl)); (case hp => exact (Reps.one (show Kd.M Kd.string _ _ _ a0 [.string a0] from rfl) (Reps.one (show Kd.M Kd.string _ _ _ a1 [.string a1] from rfl) (Reps.none _ _)))); intro v435 w49 ho50 hb hg_ hnew_; clear hg_ hnew_; (first | rw [← Ny434.out] at ho50 | (simp only [Int.reduceToNat] at ho50; rw [← Ny434.out] at ho50)); have n0_ := Aside0.mk (Kd.R_lower ho50 (below_size (by repeat (first | (with_reducible first | exact HB.out | apply below_alloc | apply pw_below_drewN | apply below_drew1) | exact HB.out)))); have n1_ := Aside0.mk (below_step (by repeat (first | (with_reducible first | exact HB.out | apply below_alloc | apply pw_below_drewN | apply below_drew1) | exact HB.out)) hb); clear HB; have HO436 := n0_; have HB := n1_; clear n0_ n1_; clear hb ho50; obtain ⟨Ao51, co51, eo51⟩ := Kd.R_slice HO436.out; subst eo51) | ((with_reducible refine gate_callee (f := 11) rfl ?_); refine goesL_ (some 20) rfl rfl Try.func11 (by kernel_rfl) rfl #[.slice Ao51 y434.length co51] rfl (by (try simp only [List.map_toArray, List.map_cons, List.map_nil]); first | done | rfl | (simp only [List.length_drop, List.length_take]; rfl)) ?_; (with_reducible refine (corporalaw05_long.calls k _ _ y434 false _ ?side1 ?side2 A3.out).mono ?_); (case side1 => repeat (first | exact (Kd.R_reads' HO436.out).2.2 | (with_reducible refine Kd.C_alloc ?_ _) | (with_reducible refine Kd.C_drewN ?_ _) | (with_reducible refine Kd.C_drew ?_))); (case side2 => exact (Kd.R_reads' HO436.out).2.1); rintro e w' ⟨rfl, ⟨nd, rfl⟩⟩; refine ⟨_, rfl, ?_⟩) | ((with_reducible refine gate_callee (f := 20) rfl ?_); refine goesL_ (some 24) rfl rfl Try.func20 (by kernel_rfl) rfl #[.string a0, .string a1] rfl (by (try simp only [List.map_toArray, List.map_cons, List.map_nil]); first | done | rfl | (simp only [List.length_drop, List.length_take]; rfl)) ?_; (with_reducible refine (feature_Union.calls k a0 a1 t438 t439 _ A8.out).mono ?_); rintro e w52 ⟨rfl, hb⟩; refine ⟨_, rfl, ?_⟩; have n0_ := Aside0.mk (Kd.R_below (by (with_reducible repeat (first | apply Kd.R_alloc | apply Kd.R_drewN | apply Kd.R_drew)); exact HO436.out) hb); have n1_ := Aside0.mk (below_step (by repeat (first | (with_reducible first | exact HB.out | apply below_alloc | apply pw_below_drewN | apply below_drew1) | exact HB.out)) hb); clear HO436; clear HB; have HO436 := n0_; have HB := n1_; clear n0_ n1_; (try clear hb); (try clear hb2); (try clear hk); (try clear hi)) | ((with_reducible refine gate_callee (f := 22) rfl ?_); refine goesL_ (some 30) rfl rfl Try.func22 (by kernel_rfl) rfl #[.string a0, .string a1] rfl (by (try simp only [List.map_toArray, List.map_cons, List.map_nil]); first | done | rfl | (simp only [List.length_drop, List.length_take]; rfl)) ?_; (with_reducible refine (corporaref05_Union.calls k a0 a1 t440 t441 _ A9.out).mono ?_); rintro e w53 ⟨rfl, hb⟩; refine ⟨_, rfl, ?_⟩; have n0_ := Aside0.mk (Kd.R_below (by (with_reducible repeat (first | apply Kd.R_alloc | apply Kd.R_drewN | apply Kd.R_drew)); exact HO436.out) hb); have n1_ := Aside0.mk (below_step (by repeat (first | (with_reducible first | exact HB.out | apply below_alloc | apply pw_below_drewN | apply below_drew1) | exact HB.out)) hb); clear HO436; clear HB; have HO436 := n0_; have HB := n1_; clear n0_ n1_; (try clear hb); (try clear hb2); (try clear hk); (try clear hi)) | ((with_reducible refine gate_callee (f := 21) rfl ?_); refine goesL_ (some 36) rfl rfl Try.func21 (by kernel_rfl) rfl #[.string a0, .string a1] rfl (by (try simp only [List.map_toArray, List.map_cons, List.map_nil]); first | done | rfl | (simp only [List.length_drop, List.length_take]; rfl)) ?_; (with_reducible refine (feature_Intersect.calls k a0 a1 t442 t443 _ A10.out).mono ?_); rintro e w54 ⟨rfl, hb⟩; refine ⟨_, rfl, ?_⟩; have n0_ := Aside0.mk (Kd.R_below (by (with_reducible repeat (first | apply Kd.R_alloc | apply Kd.R_drewN | apply Kd.R_drew)); exact HO436.out) hb); have n1_ := Aside0.mk (below_step (by repeat (first | (with_reducible first | exact HB.out | apply below_alloc | apply pw_below_drewN | apply below_drew1) | exact HB.out)) hb); clear HO436; clear HB; have HO436 := n0_; have HB := n1_; clear n0_ n1_; (try clear hb); (try clear hb2); (try clear hk); (try clear hi)) | ((with_reducible refine gate_callee (f := 23) rfl ?_); refine goesL_ (some 42) rfl rfl Try.func23 (by kernel_rfl) rfl #[.string a0, .string a1] rfl (by (try simp only [List.map_toArray, List.map_cons, List.map_nil]); first | done | rfl | (simp only [List.length_drop, List.length_take]; rfl)) ?_; (with_reducible refine (corporaref05_Intersect.calls k a0 a1 t444 t445 _ A11.out).mono ?_); rintro e w55 ⟨rfl, hb⟩; refine ⟨_, rfl, ?_⟩; have n0_ := Aside0.mk (Kd.R_below (by (with_reducible repeat (first | apply Kd.R_alloc | apply Kd.R_drewN | apply Kd.R_drew)); exact HO436.out) hb); have n1_ := Aside0.mk (below_step (by repeat (first | (with_reducible first | exact HB.out | apply below_alloc | apply pw_below_drewN | apply below_drew1) | exact HB.out)) hb); clear HO436; clear HB; have HO436 := n0_; have HB := n1_; clear n0_ n1_; (try clear hb); (try clear hb2); (try clear hk); (try clear hi)) | ((with_reducible refine gate_callee (f := 24) rfl ?_); refine goesL_ (some 48) rfl rfl Try.func24 (by kernel_rfl) rfl #[.string a0, .string a1] rfl (by (try simp only [List.map_toArray, List.map_cons, List.map_nil]); first | done | rfl | (simp only [List.length_drop, List.length_take]; rfl)) ?_; (with_reducible refine (feature_Subset.calls k a0 a1 t446 t447 _ A12.out).mono ?_); rintro e w56 ⟨rfl, hb⟩; refine ⟨_, rfl, ?_⟩; have n0_ := Aside0.mk (Kd.R_below (by (with_reducible repeat (first | apply Kd.R_alloc | apply Kd.R_drewN | apply Kd.R_drew)); exact HO436.out) hb); have n1_ := Aside0.mk (below_step (by repeat (first | (with_reducible first | exact HB.out | apply below_alloc | apply pw_below_drewN | apply below_drew1) | exact HB.out)) hb); clear HO436; clear HB; have HO436 := n0_; have HB := n1_; clear n0_ n1_; (try clear hb); (try clear hb2); (try clear hk); (try clear hi)) | ((with_reducible refine gate_callee (f := 25) rfl ?_); refine goesL_ (some 54) rfl rfl Try.func25 (by kernel_rfl) rfl #[.string a0, .string a1] rfl (by (try simp only [List.map_toArray, List.map_cons, List.map_nil]); first | done | rfl | (simp only [List.length_drop, List.length_take]; rfl)) ?_; (with_reducible refine (corporaref05_Subset.calls k a0 a1 t448 t449 _ A13.out).mono ?_); rintro e w57 ⟨rfl, hb⟩; refine ⟨_, rfl, ?_⟩; have n0_ := Aside0.mk (Kd.R_below (by (with_reducible repeat (first | apply Kd.R_alloc | apply Kd.R_drewN | apply Kd.R_drew)); exact HO436.out) hb); have n1_ := Aside0.mk (below_step (by repeat (first | (with_reducible first | exact HB.out | apply below_alloc | apply pw_below_drewN | apply below_drew1) | exact HB.out)) hb); clear HO436; clear HB; have HO436 := n0_; have HB := n1_; clear n0_ n1_; (try clear hb); (try clear hb2); (try clear hk); (try clear hi)))
            go_ret
            exact ⟨by first | rfl | (simp [errW_none, errW_some] <;> rfl) | (simp [*, errW_none, errW_some] <;> rfl), by repeat (first | (with_reducible first | exact HB.out | apply below_alloc | apply pw_below_drewN | apply below_drew1) | exact HB.out)⟩
        · rw [if_neg c16] at H
          have c16b0 : (t442.toList == t444.toList) = false := beq_eq_false_iff_ne.mpr c16
          have c16b1 : (t442.toList != t444.toList) = true := bne_iff_ne.mpr c16
          obtain rfl := Option.some.inj H
          go_enter Try.func9, Try.ntmps9
          go_wp2_with (first | ((with_reducible refine gate_dst (N := 19) rfl ?_); refine Kd.R_lit Kd.string _ 9 ?hg (N := 19) ?hd (xs := ([a0, a1] : List ByteArray)) (inner := [.string a0, .string a1]) (ok := fun _ => True) (okp := fun _ => True) ?hr ?hp (fun _ hk => hk) trivial (Below.refl _ _) (Nat.le_refl _) (by simp) ?_; (case hd => rfl); (case hg => rfl); (case hr => first | (go_simp; done) | (go_simp; rfl)); (case hp => exact (Reps.one (show Kd.M Kd.string _ _ _ a0 [.string a0] from rfl) (Reps.one (show Kd.M Kd.string _ _ _ a1 [.string a1] from rfl) (Reps.none _ _)))); intro v435 w58 ho59 hb hg_ hnew_; clear hg_ hnew_; (first | rw [← Ny434.out] at ho59 | (simp only [Int.reduceToNat] at ho59; rw [← Ny434.out] at ho59)); have n0_ := Aside0.mk (Kd.R_lower ho59 (below_size (by repeat (first | (with_reducible first | exact HB.out | apply below_alloc | apply pw_below_drewN | apply below_drew1) | exact HB.out)))); have n1_ := Aside0.mk (below_step (by repeat (first | (with_reducible first | exact HB.out | apply below_alloc | apply pw_below_drewN | apply below_drew1) | exact HB.out)) hb); clear HB; have HO436 := n0_; have HB := n1_; clear n0_ n1_; clear hb ho59; obtain ⟨Ao60, co60, eo60⟩ := Kd.R_slice HO436.out; subst eo60) | ((with_reducible refine gate_callee (f := 11) rfl ?_); refine goesL_ (some 20) rfl rfl Try.func11 (by kernel_rfl) rfl #[.slice Ao60 y434.length co60] rfl (by (try simp only [List.map_toArray, List.map_cons, List.map_nil]); first | done | rfl | (simp only [List.length_drop, List.length_take]; rfl)) ?_; (with_reducible refine (corporalaw05_long.calls k _ _ y434 false _ ?side1 ?side2 A3.out).mono ?_); (case side1 => repeat (first | exact (Kd.R_reads' HO436.out).2.2 | (with_reducible refine Kd.C_alloc ?_ _) | (with_reducible refine Kd.C_drewN ?_ _) | (with_reducible refine Kd.C_drew ?_))); (case side2 => exact (Kd.R_reads' HO436.out).2.1); rintro e w' ⟨rfl, ⟨nd, rfl⟩⟩; refine ⟨_, rfl, ?_⟩) | ((with_reducible refine gate_callee (f := 20) rfl ?_); refine goesL_ (some 24) rfl rfl Try.func20 (by kernel_rfl) rfl #[.string a0, .string a1] rfl (by (try simp only [List.map_toArray, List.map_cons, List.map_nil]); first | done | rfl | (simp only [List.length_drop, List.length_take]; rfl)) ?_; (with_reducible refine (feature_Union.calls k a0 a1 t438 t439 _ A8.out).mono ?_); rintro e w61 ⟨rfl, hb⟩; refine ⟨_, rfl, ?_⟩; have n0_ := Aside0.mk (Kd.R_below (by (with_reducible repeat (first | apply Kd.R_alloc | apply Kd.R_drewN | apply Kd.R_drew)); exact HO436.out) hb); have n1_ := Aside0.mk (below_step (by repeat (first | (with_reducible first | exact HB.out | apply below_alloc | apply pw_below_drewN | apply below_drew1) | exact HB.out)) hb); clear HO436; clear HB; have HO436 := n0_; have HB := n1_; clear n0_ n1_; (try clear hb); (try clear hb2); (try clear hk); (try clear hi)) | ((with_reducible refine gate_callee (f := 22) rfl ?_); refine goesL_ (some 30) rfl rfl Try.func22 (by kernel_rfl) rfl #[.string a0, .string a1] rfl (by (try simp only [List.map_toArray, List.map_cons, List.map_nil]); first | done | rfl | (simp only [List.length_drop, List.length_take]; rfl)) ?_; (with_reducible refine (corporaref05_Union.calls k a0 a1 t440 t441 _ A9.out).mono ?_); rintro e w62 ⟨rfl, hb⟩; refine ⟨_, rfl, ?_⟩; have n0_ := Aside0.mk (Kd.R_below (by (with_reducible repeat (first | apply Kd.R_alloc | apply Kd.R_drewN | apply Kd.R_drew)); exact HO436.out) hb); have n1_ := Aside0.mk (below_step (by repeat (first | (with_reducible first | exact HB.out | apply below_alloc | apply pw_below_drewN | apply below_drew1) | exact HB.out)) hb); clear HO436; clear HB; have HO436 := n0_; have HB := n1_; clear n0_ n1_; (try clear hb); (try clear hb2); (try clear hk); (try clear hi)) | ((with_reducible refine gate_callee (f := 21) rfl ?_); refine goesL_ (some 36) rfl rfl Try.func21 (by kernel_rfl) rfl #[.string a0, .string a1] rfl (by (try simp only [List.map_toArray, List.map_cons, List.map_nil]); first | done | rfl | (simp only [List.length_drop, List.length_take]; rfl)) ?_; (with_reducible refine (feature_Intersect.calls k a0 a1 t442 t443 _ A10.out).mono ?_); rintro e w63 ⟨rfl, hb⟩; refine ⟨_, rfl, ?_⟩; have n0_ := Aside0.mk (Kd.R_below (by (with_reducible repeat (first | apply Kd.R_alloc | apply Kd.R_drewN | apply Kd.R_drew)); exact HO436.out) hb); have n1_ := Aside0.mk (below_step (by repeat (first | (with_reducible first | exact HB.out | apply below_alloc | apply pw_below_drewN | apply below_drew1) | exact HB.out)) hb); clear HO436; clear HB; have HO436 := n0_; have HB := n1_; clear n0_ n1_; (try clear hb); (try clear hb2); (try clear hk); (try clear hi)) | ((with_reducible refine gate_callee (f := 23) rfl ?_); refine goesL_ (some 42) rfl rfl Try.func23 (by kernel_rfl) rfl #[.string a0, .string a1] rfl (by (try simp only [List.map_toArray, List.map_cons, List.map_nil]); first | done | rfl | (simp only [List.length_drop, List.length_take]; rfl)) ?_; (with_reducible refine (corporaref05_Intersect.calls k a0 a1 t444 t445 _ A11.out).mono ?_); rintro e w64 ⟨rfl, hb⟩; refine ⟨_, rfl, ?_⟩; have n0_ := Aside0.mk (Kd.R_below (by (with_reducible repeat (first | apply Kd.R_alloc | apply Kd.R_drewN | apply Kd.R_drew)); exact HO436.out) hb); have n1_ := Aside0.mk (below_step (by repeat (first | (with_reducible first | exact HB.out | apply below_alloc | apply pw_below_drewN | apply below_drew1) | exact HB.out)) hb); clear HO436; clear HB; have HO436 := n0_; have HB := n1_; clear n0_ n1_; (try clear hb); (try clear hb2); (try clear hk); (try clear hi)) | ((with_reducible refine gate_callee (f := 24) rfl ?_); refine goesL_ (some 48) rfl rfl Try.func24 (by kernel_rfl) rfl #[.string a0, .string a1] rfl (by (try simp only [List.map_toArray, List.map_cons, List.map_nil]); first | done | rfl | (simp only [List.length_drop, List.length_take]; rfl)) ?_; (with_reducible refine (feature_Subset.calls k a0 a1 t446 t447 _ A12.out).mono ?_); rintro e w65 ⟨rfl, hb⟩; refine ⟨_, rfl, ?_⟩; have n0_ := Aside0.mk (Kd.R_below (by (with_reducible repeat (first | apply Kd.R_alloc | apply Kd.R_drewN | apply Kd.R_drew)); exact HO436.out) hb); have n1_ := Aside0.mk (below_step (by repeat (first | (with_reducible first | exact HB.out | apply below_alloc | apply pw_below_drewN | apply below_drew1) | exact HB.out)) hb); clear HO436; clear HB; have HO436 := n0_; have HB := n1_; clear n0_ n1_; (try clear hb); (try clear hb2); (try clear hk); (try clear hi)) | ((with_reducible refine gate_callee (f := 25) rfl ?_); refine goesL_ (some 54) rfl rfl Try.func25 (by kernel_rfl) rfl #[.string a0, .string a1] rfl (by (try simp only [List.map_toArray, List.map_cons, List.map_nil]); first | done | rfl | (simp only [List.length_drop, List.length_take]; rfl)) ?_; (with_reducible refine (corporaref05_Subset.calls k a0 a1 t448 t449 _ A13.out).mono ?_); rintro e w66 ⟨rfl, hb⟩; refine ⟨_, rfl, ?_⟩; have n0_ := Aside0.mk (Kd.R_below (by (with_reducible repeat (first | apply Kd.R_alloc | apply Kd.R_drewN | apply Kd.R_drew)); exact HO436.out) hb); have n1_ := Aside0.mk (below_step (by repeat (first | (with_reducible first | exact HB.out | apply below_alloc | apply pw_below_drewN | apply below_drew1) | exact HB.out)) hb); clear HO436; clear HB; have HO436 := n0_; have HB := n1_; clear n0_ n1_; (try clear hb); (try clear hb2); (try clear hk); (try clear hi)))
          go_ret
          exact ⟨by first | rfl | (simp [errW_none, errW_some] <;> rfl) | (simp [*, errW_none, errW_some] <;> rfl), by repeat (first | (with_reducible first | exact HB.out | apply below_alloc | apply pw_below_drewN | apply below_drew1) | exact HB.out)⟩
      · rw [if_neg c15] at H
        have c15b0 : (t439 == t441) = false := beq_eq_false_iff_ne.mpr c15
        have c15b1 : (t439 != t441) = true := bne_iff_ne.mpr c15
        obtain rfl := Option.some.inj H
        go_enter Try.func9, Try.ntmps9
        go_wp2_with (first | ((with_reducible refine gate_dst (N := 19) rfl ?_); refine Kd.R_lit Kd.string _ 9 ?hg (N := 19) ?hd (xs := ([a0, a1] : List ByteArray)) (inner := [.string a0, .string a1]) (ok := fun _ => True) (okp := fun _ => True) ?hr ?hp (fun _ hk => hk) trivial (Below.refl _ _) (Nat.le_refl _) (by simp) ?_; (case hd => rfl); (case hg => rfl); (case hr => first | (go_simp; done) | (go_simp; rfl)); (case hp => exact (Reps.one (show Kd.M Kd.string _ _ _ a0 [.string a0] from rfl) (Reps.one (show Kd.M Kd.string _ _ _ a1 [.string a1] from rfl) (Reps.none _ _)))); intro v435 w67 ho68 hb hg_ hnew_; clear hg_ hnew_; (first | rw [← Ny434.out] at ho68 | (simp only [Int.reduceToNat] at ho68; rw [← Ny434.out] at ho68)); have n0_ := Aside0.mk (Kd.R_lower ho68 (below_size (by repeat (first | (with_reducible first | exact HB.out | apply below_alloc | apply pw_below_drewN | apply below_drew1) | exact HB.out)))); have n1_ := Aside0.mk (below_step (by repeat (first | (with_reducible first | exact HB.out | apply below_alloc | apply pw_below_drewN | apply below_drew1) | exact HB.out)) hb); clear HB; have HO436 := n0_; have HB := n1_; clear n0_ n1_; clear hb ho68; obtain ⟨Ao69, co69, eo69⟩ := Kd.R_slice HO436.out; subst eo69) | ((with_reducible refine gate_callee (f := 11) rfl ?_); refine goesL_ (some 20) rfl rfl Try.func11 (by kernel_rfl) rfl #[.slice Ao69 y434.length co69] rfl (by (try simp only [List.map_toArray, List.map_cons, List.map_nil]); first | done | rfl | (simp only [List.length_drop, List.length_take]; rfl)) ?_; (with_reducible refine (corporalaw05_long.calls k _ _ y434 false _ ?side1 ?side2 A3.out).mono ?_); (case side1 => repeat (first | exact (Kd.R_reads' HO436.out).2.2 | (with_reducible refine Kd.C_alloc ?_ _) | (with_reducible refine Kd.C_drewN ?_ _) | (with_reducible refine Kd.C_drew ?_))); (case side2 => exact (Kd.R_reads' HO436.out).2.1); rintro e w' ⟨rfl, ⟨nd, rfl⟩⟩; refine ⟨_, rfl, ?_⟩) | ((with_reducible refine gate_callee (f := 20) rfl ?_); refine goesL_ (some 24) rfl rfl Try.func20 (by kernel_rfl) rfl #[.string a0, .string a1] rfl (by (try simp only [List.map_toArray, List.map_cons, List.map_nil]); first | done | rfl | (simp only [List.length_drop, List.length_take]; rfl)) ?_; (with_reducible refine (feature_Union.calls k a0 a1 t438 t439 _ A8.out).mono ?_); rintro e w70 ⟨rfl, hb⟩; refine ⟨_, rfl, ?_⟩; have n0_ := Aside0.mk (Kd.R_below (by (with_reducible repeat (first | apply Kd.R_alloc | apply Kd.R_drewN | apply Kd.R_drew)); exact HO436.out) hb); have n1_ := Aside0.mk (below_step (by repeat (first | (with_reducible first | exact HB.out | apply below_alloc | apply pw_below_drewN | apply below_drew1) | exact HB.out)) hb); clear HO436; clear HB; have HO436 := n0_; have HB := n1_; clear n0_ n1_; (try clear hb); (try clear hb2); (try clear hk); (try clear hi)) | ((with_reducible refine gate_callee (f := 22) rfl ?_); refine goesL_ (some 30) rfl rfl Try.func22 (by kernel_rfl) rfl #[.string a0, .string a1] rfl (by (try simp only [List.map_toArray, List.map_cons, List.map_nil]); first | done | rfl | (simp only [List.length_drop, List.length_take]; rfl)) ?_; (with_reducible refine (corporaref05_Union.calls k a0 a1 t440 t441 _ A9.out).mono ?_); rintro e w71 ⟨rfl, hb⟩; refine ⟨_, rfl, ?_⟩; have n0_ := Aside0.mk (Kd.R_below (by (with_reducible repeat (first | apply Kd.R_alloc | apply Kd.R_drewN | apply Kd.R_drew)); exact HO436.out) hb); have n1_ := Aside0.mk (below_step (by repeat (first | (with_reducible first | exact HB.out | apply below_alloc | apply pw_below_drewN | apply below_drew1) | exact HB.out)) hb); clear HO436; clear HB; have HO436 := n0_; have HB := n1_; clear n0_ n1_; (try clear hb); (try clear hb2); (try clear hk); (try clear hi)) | ((with_reducible refine gate_callee (f := 21) rfl ?_); refine goesL_ (some 36) rfl rfl Try.func21 (by kernel_rfl) rfl #[.string a0, .string a1] rfl (by (try simp only [List.map_toArray, List.map_cons, List.map_nil]); first | done | rfl | (simp only [List.length_drop, List.length_take]; rfl)) ?_; (with_reducible refine (feature_Intersect.calls k a0 a1 t442 t443 _ A10.out).mono ?_); rintro e w72 ⟨rfl, hb⟩; refine ⟨_, rfl, ?_⟩; have n0_ := Aside0.mk (Kd.R_below (by (with_reducible repeat (first | apply Kd.R_alloc | apply Kd.R_drewN | apply Kd.R_drew)); exact HO436.out) hb); have n1_ := Aside0.mk (below_step (by repeat (first | (with_reducible first | exact HB.out | apply below_alloc | apply pw_below_drewN | apply below_drew1) | exact HB.out)) hb); clear HO436; clear HB; have HO436 := n0_; have HB := n1_; clear n0_ n1_; (try clear hb); (try clear hb2); (try clear hk); (try clear hi)) | ((with_reducible refine gate_callee (f := 23) rfl ?_); refine goesL_ (some 42) rfl rfl Try.func23 (by kernel_rfl) rfl #[.string a0, .string a1] rfl (by (try simp only [List.map_toArray, List.map_cons, List.map_nil]); first | done | rfl | (simp only [List.length_drop, List.length_take]; rfl)) ?_; (with_reducible refine (corporaref05_Intersect.calls k a0 a1 t444 t445 _ A11.out).mono ?_); rintro e w73 ⟨rfl, hb⟩; refine ⟨_, rfl, ?_⟩; have n0_ := Aside0.mk (Kd.R_below (by (with_reducible repeat (first | apply Kd.R_alloc | apply Kd.R_drewN | apply Kd.R_drew)); exact HO436.out) hb); have n1_ := Aside0.mk (below_step (by repeat (first | (with_reducible first | exact HB.out | apply below_alloc | apply pw_below_drewN | apply below_drew1) | exact HB.out)) hb); clear HO436; clear HB; have HO436 := n0_; have HB := n1_; clear n0_ n1_; (try clear hb); (try clear hb2); (try clear hk); (try clear hi)) | ((with_reducible refine gate_callee (f := 24) rfl ?_); refine goesL_ (some 48) rfl rfl Try.func24 (by kernel_rfl) rfl #[.string a0, .string a1] rfl (by (try simp only [List.map_toArray, List.map_cons, List.map_nil]); first | done | rfl | (simp only [List.length_drop, List.length_take]; rfl)) ?_; (with_reducible refine (feature_Subset.calls k a0 a1 t446 t447 _ A12.out).mono ?_); rintro e w74 ⟨rfl, hb⟩; refine ⟨_, rfl, ?_⟩; have n0_ := Aside0.mk (Kd.R_below (by (with_reducible repeat (first | apply Kd.R_alloc | apply Kd.R_drewN | apply Kd.R_drew)); exact HO436.out) hb); have n1_ := Aside0.mk (below_step (by repeat (first | (with_reducible first | exact HB.out | apply below_alloc | apply pw_below_drewN | apply below_drew1) | exact HB.out)) hb); clear HO436; clear HB; have HO436 := n0_; have HB := n1_; clear n0_ n1_; (try clear hb); (try clear hb2); (try clear hk); (try clear hi)) | ((with_reducible refine gate_callee (f := 25) rfl ?_); refine goesL_ (some 54) rfl rfl Try.func25 (by kernel_rfl) rfl #[.string a0, .string a1] rfl (by (try simp only [List.map_toArray, List.map_cons, List.map_nil]); first | done | rfl | (simp only [List.length_drop, List.length_take]; rfl)) ?_; (with_reducible refine (corporaref05_Subset.calls k a0 a1 t448 t449 _ A13.out).mono ?_); rintro e w75 ⟨rfl, hb⟩; refine ⟨_, rfl, ?_⟩; have n0_ := Aside0.mk (Kd.R_below (by (with_reducible repeat (first | apply Kd.R_alloc | apply Kd.R_drewN | apply Kd.R_drew)); exact HO436.out) hb); have n1_ := Aside0.mk (below_step (by repeat (first | (with_reducible first | exact HB.out | apply below_alloc | apply pw_below_drewN | apply below_drew1) | exact HB.out)) hb); clear HO436; clear HB; have HO436 := n0_; have HB := n1_; clear n0_ n1_; (try clear hb); (try clear hb2); (try clear hk); (try clear hi)))
        go_ret
        exact ⟨by first | rfl | (simp [errW_none, errW_some] <;> rfl) | (simp [*, errW_none, errW_some] <;> rfl), by repeat (first | (with_reducible first | exact HB.out | apply below_alloc | apply pw_below_drewN | apply below_drew1) | exact HB.out)⟩
    · rw [if_neg c14] at H
      have c14b0 : (t438.toList == t440.toList) = false := beq_eq_false_iff_ne.mpr c14
      have c14b1 : (t438.toList != t440.toList) = true := bne_iff_ne.mpr c14
      obtain rfl := Option.some.inj H
      go_enter Try.func9, Try.ntmps9
      go_wp2_with (first | ((with_reducible refine gate_dst (N := 19) rfl ?_); refine Kd.R_lit Kd.string _ 9 ?hg (N := 19) ?hd (xs := ([a0, a1] : List ByteArray)) (inner := [.string a0, .string a1]) (ok := fun _ => True) (okp := fun _ => True) ?hr ?hp (fun _ hk => hk) trivial (Below.refl _ _) (Nat.le_refl _) (by simp) ?_; (case hd => rfl); (case hg => rfl); (case hr => first | (go_simp; done) | (go_simp; rfl)); (case hp => exact (Reps.one (show Kd.M Kd.string _ _ _ a0 [.string a0] from rfl) (Reps.one (show Kd.M Kd.string _ _ _ a1 [.string a1] from rfl) (Reps.none _ _)))); intro v435 w76 ho77 hb hg_ hnew_; clear hg_ hnew_; (first | rw [← Ny434.out] at ho77 | (simp only [Int.reduceToNat] at ho77; rw [← Ny434.out] at ho77)); have n0_ := Aside0.mk (Kd.R_lower ho77 (below_size (by repeat (first | (with_reducible first | exact HB.out | apply below_alloc | apply pw_below_drewN | apply below_drew1) | exact HB.out)))); have n1_ := Aside0.mk (below_step (by repeat (first | (with_reducible first | exact HB.out | apply below_alloc | apply pw_below_drewN | apply below_drew1) | exact HB.out)) hb); clear HB; have HO436 := n0_; have HB := n1_; clear n0_ n1_; clear hb ho77; obtain ⟨Ao78, co78, eo78⟩ := Kd.R_slice HO436.out; subst eo78) | ((with_reducible refine gate_callee (f := 11) rfl ?_); refine goesL_ (some 20) rfl rfl Try.func11 (by kernel_rfl) rfl #[.slice Ao78 y434.length co78] rfl (by (try simp only [List.map_toArray, List.map_cons, List.map_nil]); first | done | rfl | (simp only [List.length_drop, List.length_take]; rfl)) ?_; (with_reducible refine (corporalaw05_long.calls k _ _ y434 false _ ?side1 ?side2 A3.out).mono ?_); (case side1 => repeat (first | exact (Kd.R_reads' HO436.out).2.2 | (with_reducible refine Kd.C_alloc ?_ _) | (with_reducible refine Kd.C_drewN ?_ _) | (with_reducible refine Kd.C_drew ?_))); (case side2 => exact (Kd.R_reads' HO436.out).2.1); rintro e w' ⟨rfl, ⟨nd, rfl⟩⟩; refine ⟨_, rfl, ?_⟩) | ((with_reducible refine gate_callee (f := 20) rfl ?_); refine goesL_ (some 24) rfl rfl Try.func20 (by kernel_rfl) rfl #[.string a0, .string a1] rfl (by (try simp only [List.map_toArray, List.map_cons, List.map_nil]); first | done | rfl | (simp only [List.length_drop, List.length_take]; rfl)) ?_; (with_reducible refine (feature_Union.calls k a0 a1 t438 t439 _ A8.out).mono ?_); rintro e w79 ⟨rfl, hb⟩; refine ⟨_, rfl, ?_⟩; have n0_ := Aside0.mk (Kd.R_below (by (with_reducible repeat (first | apply Kd.R_alloc | apply Kd.R_drewN | apply Kd.R_drew)); exact HO436.out) hb); have n1_ := Aside0.mk (below_step (by repeat (first | (with_reducible first | exact HB.out | apply below_alloc | apply pw_below_drewN | apply below_drew1) | exact HB.out)) hb); clear HO436; clear HB; have HO436 := n0_; have HB := n1_; clear n0_ n1_; (try clear hb); (try clear hb2); (try clear hk); (try clear hi)) | ((with_reducible refine gate_callee (f := 22) rfl ?_); refine goesL_ (some 30) rfl rfl Try.func22 (by kernel_rfl) rfl #[.string a0, .string a1] rfl (by (try simp only [List.map_toArray, List.map_cons, List.map_nil]); first | done | rfl | (simp only [List.length_drop, List.length_take]; rfl)) ?_; (with_reducible refine (corporaref05_Union.calls k a0 a1 t440 t441 _ A9.out).mono ?_); rintro e w80 ⟨rfl, hb⟩; refine ⟨_, rfl, ?_⟩; have n0_ := Aside0.mk (Kd.R_below (by (with_reducible repeat (first | apply Kd.R_alloc | apply Kd.R_drewN | apply Kd.R_drew)); exact HO436.out) hb); have n1_ := Aside0.mk (below_step (by repeat (first | (with_reducible first | exact HB.out | apply below_alloc | apply pw_below_drewN | apply below_drew1) | exact HB.out)) hb); clear HO436; clear HB; have HO436 := n0_; have HB := n1_; clear n0_ n1_; (try clear hb); (try clear hb2); (try clear hk); (try clear hi)) | ((with_reducible refine gate_callee (f := 21) rfl ?_); refine goesL_ (some 36) rfl rfl Try.func21 (by kernel_rfl) rfl #[.string a0, .string a1] rfl (by (try simp only [List.map_toArray, List.map_cons, List.map_nil]); first | done | rfl | (simp only [List.length_drop, List.length_take]; rfl)) ?_; (with_reducible refine (feature_Intersect.calls k a0 a1 t442 t443 _ A10.out).mono ?_); rintro e w81 ⟨rfl, hb⟩; refine ⟨_, rfl, ?_⟩; have n0_ := Aside0.mk (Kd.R_below (by (with_reducible repeat (first | apply Kd.R_alloc | apply Kd.R_drewN | apply Kd.R_drew)); exact HO436.out) hb); have n1_ := Aside0.mk (below_step (by repeat (first | (with_reducible first | exact HB.out | apply below_alloc | apply pw_below_drewN | apply below_drew1) | exact HB.out)) hb); clear HO436; clear HB; have HO436 := n0_; have HB := n1_; clear n0_ n1_; (try clear hb); (try clear hb2); (try clear hk); (try clear hi)) | ((with_reducible refine gate_callee (f := 23) rfl ?_); refine goesL_ (some 42) rfl rfl Try.func23 (by kernel_rfl) rfl #[.string a0, .string a1] rfl (by (try simp only [List.map_toArray, List.map_cons, List.map_nil]); first | done | rfl | (simp only [List.length_drop, List.length_take]; rfl)) ?_; (with_reducible refine (corporaref05_Intersect.calls k a0 a1 t444 t445 _ A11.out).mono ?_); rintro e w82 ⟨rfl, hb⟩; refine ⟨_, rfl, ?_⟩; have n0_ := Aside0.mk (Kd.R_below (by (with_reducible repeat (first | apply Kd.R_alloc | apply Kd.R_drewN | apply Kd.R_drew)); exact HO436.out) hb); have n1_ := Aside0.mk (below_step (by repeat (first | (with_reducible first | exact HB.out | apply below_alloc | apply pw_below_drewN | apply below_drew1) | exact HB.out)) hb); clear HO436; clear HB; have HO436 := n0_; have HB := n1_; clear n0_ n1_; (try clear hb); (try clear hb2); (try clear hk); (try clear hi)) | ((with_reducible refine gate_callee (f := 24) rfl ?_); refine goesL_ (some 48) rfl rfl Try.func24 (by kernel_rfl) rfl #[.string a0, .string a1] rfl (by (try simp only [List.map_toArray, List.map_cons, List.map_nil]); first | done | rfl | (simp only [List.length_drop, List.length_take]; rfl)) ?_; (with_reducible refine (feature_Subset.calls k a0 a1 t446 t447 _ A12.out).mono ?_); rintro e w83 ⟨rfl, hb⟩; refine ⟨_, rfl, ?_⟩; have n0_ := Aside0.mk (Kd.R_below (by (with_reducible repeat (first | apply Kd.R_alloc | apply Kd.R_drewN | apply Kd.R_drew)); exact HO436.out) hb); have n1_ := Aside0.mk (below_step (by repeat (first | (with_reducible first | exact HB.out | apply below_alloc | apply pw_below_drewN | apply below_drew1) | exact HB.out)) hb); clear HO436; clear HB; have HO436 := n0_; have HB := n1_; clear n0_ n1_; (try clear hb); (try clear hb2); (try clear hk); (try clear hi)) | ((with_reducible refine gate_callee (f := 25) rfl ?_); refine goesL_ (some 54) rfl rfl Try.func25 (by kernel_rfl) rfl #[.string a0, .string a1] rfl (by (try simp only [List.map_toArray, List.map_cons, List.map_nil]); first | done | rfl | (simp only [List.length_drop, List.length_take]; rfl)) ?_; (with_reducible refine (corporaref05_Subset.calls k a0 a1 t448 t449 _ A13.out).mono ?_); rintro e w84 ⟨rfl, hb⟩; refine ⟨_, rfl, ?_⟩; have n0_ := Aside0.mk (Kd.R_below (by (with_reducible repeat (first | apply Kd.R_alloc | apply Kd.R_drewN | apply Kd.R_drew)); exact HO436.out) hb); have n1_ := Aside0.mk (below_step (by repeat (first | (with_reducible first | exact HB.out | apply below_alloc | apply pw_below_drewN | apply below_drew1) | exact HB.out)) hb); clear HO436; clear HB; have HO436 := n0_; have HB := n1_; clear n0_ n1_; (try clear hb); (try clear hb2); (try clear hk); (try clear hi)))
      go_ret
      exact ⟨by first | rfl | (simp [errW_none, errW_some] <;> rfl) | (simp [*, errW_none, errW_some] <;> rfl), by repeat (first | (with_reducible first | exact HB.out | apply below_alloc | apply pw_below_drewN | apply below_drew1) | exact HB.out)⟩

/-- THE ONE PURE STATEMENT of corporalaw05_FeatureCombines: yours. -/
def corporalaw05_FeatureCombines.Pure : Prop := ∀ (a0 : ByteArray) (a1 : ByteArray), a0.size ≤ 140737488351232 → a1.size ≤ 140737488351232 → ∃ k, corporalaw05_FeatureCombines.f k a0 a1 = some true
theorem corporalaw05_FeatureCombines.walk (P : corporalaw05_FeatureCombines.Pure) (a0 : ByteArray) (a1 : ByteArray) (w : World) (w0 : a0.size ≤ 140737488351232) (w1 : a1.size ≤ 140737488351232) :
    Calls Try.prog 9 #[.string a0, .string a1] w fun e w' => e = .returned (.bool true) ∧ Below w.heap.size w w' := by
  obtain ⟨k, h⟩ := P a0 a1 w0 w1
  refine (corporalaw05_FeatureCombines.calls k a0 a1 true w h).mono ?_
  rintro e w' ⟨rfl, hd⟩
  exact ⟨rfl, hd⟩

end Go.Proofs.Ytcgglamgemgeiaa.Q
/- FLaws -/
namespace Go.Proofs.Ytcgglamgemgeiaa.Q
open Go.Lib
theorem text_inj {l m : List ByteArray} (hl : ∀ f ∈ l, Feat f) (hm : ∀ f ∈ m, Feat f) (h : text l = text m) : l = m := by
  have h1 : tailT l = tailT m := by
    have := congrArg bl h
    rw [bl_text, bl_text] at this
    exact (List.cons.inj this).2
  have h2 := spl_tail l (fun f hf => ⟨(hl f hf).2.1, (hl f hf).2.2⟩)
  have h3 := spl_tail m (fun f hf => ⟨(hm f hf).2.1, (hm f hf).2.2⟩)
  rw [h1, h3] at h2
  have h4 := congrArg (List.map mkB) (Option.some.inj h2)
  have e : ∀ k : List ByteArray, (k.map bl).map mkB = k := fun k => by
    rw [List.map_map]
    conv => rhs; rw [← List.map_id k]
    exact List.map_congr_left (fun x _ => mkB_bl x)
  rw [e, e] at h4
  exact h4.symm
theorem tail_sub {l m : List ByteArray} (h : l.Sublist m) : (tailT l).length ≤ (tailT m).length := by
  induction h with
  | slnil => exact Nat.le_refl _
  | cons a h ih => simp only [tailT, List.length_append, List.length_cons]; omega
  | cons_cons a h ih => simp only [tailT, List.length_append, List.length_cons]; omega
theorem text_sub {l m : List ByteArray} (h : l.Sublist m) : (text l).size ≤ (text m).size := by
  rw [size_text, size_text]; have := tail_sub h; omega
theorem FM_congr {l m : List ByteArray} (hl : ∀ f ∈ l, Feat f) (hm : ∀ x, x ∈ m ↔ x ∈ l) : FM m = FM l := by
  rw [FM_feat hl, FM_feat (fun f hf => hl f ((hm f).1 hf)), nrm_congr hm]
theorem FM_same {s : ByteArray} {l m : List ByteArray} (h : PR s = (l, 0)) (hm : ∀ x, x ∈ m ↔ x ∈ l) : FM m = (s, 0) := by
  obtain ⟨h1, h2, h3, h4⟩ := PR_ok h
  rw [FM_feat (fun f hf => h3 f ((hm f).1 hf)), nrm_of_ss h2 hm, ← h1, if_neg (by omega)]
/-- A list of features that is what two sets' features are joined to. -/
theorem app_feat {x y : List ByteArray} (hx : ∀ f ∈ x, Feat f) (hy : ∀ f ∈ y, Feat f) : ∀ f ∈ x ++ y, Feat f := fun f hf => (List.mem_append.1 hf).elim (hx f) (hy f)
theorem UN_def {a b : ByteArray} {x y : List ByteArray} (ha : PR a = (x, 0)) (hb : PR b = (y, 0)) : UN a b = FM (x ++ y) := by
  unfold UN; rw [ha, hb]; simp
theorem IS_def {a b : ByteArray} {x y : List ByteArray} (ha : PR a = (x, 0)) (hb : PR b = (y, 0)) : IS a b = (text (x.filter (memb y)), 0) := by
  unfold IS; rw [ha, hb]; simp
theorem SB_def {a b : ByteArray} {x y : List ByteArray} (ha : PR a = (x, 0)) (hb : PR b = (y, 0)) : SB a b = (x.all (memb y), 0) := by
  unfold SB; rw [ha, hb]; simp
theorem two_ok {α : Type} {a b : ByteArray} {d : α} {r : α × Int} (h : (if (PR a).2 ≠ 0 then (d, (PR a).2) else if (PR b).2 ≠ 0 then (d, (PR b).2) else r).2 = 0) : ∃ x y, PR a = (x, 0) ∧ PR b = (y, 0) := by
  by_cases h1 : (PR a).2 = 0
  · by_cases h2 : (PR b).2 = 0
    · exact ⟨_, _, PR_eta h1, PR_eta h2⟩
    · rw [if_neg (by simp [h1]), if_pos h2] at h; exact absurd h h2
  · rw [if_pos h1] at h; exact absurd h h1
theorem filter_text {a : ByteArray} {x : List ByteArray} (ha : PR a = (x, 0)) (p : ByteArray → Bool) : PR (text (x.filter p)) = (x.filter p, 0) := by
  obtain ⟨h1, h2, h3, h4⟩ := PR_ok ha
  refine PR_text (h2.filter p) (fun f hf => h3 f (List.mem_filter.1 hf).1) ?_
  have := text_sub (List.filter_sublist (p := p) (l := x))
  rw [h1] at h4; omega
theorem UN_ok {a b : ByteArray} {x y : List ByteArray} (ha : PR a = (x, 0)) (hb : PR b = (y, 0)) (h : (UN a b).2 = 0) : (UN a b).1 = text (nrm (x ++ y)) ∧ PR (UN a b).1 = (nrm (x ++ y), 0) := by
  have hf := app_feat (PR_ok ha).2.2.1 (PR_ok hb).2.2.1
  rw [UN_def ha hb, FM_feat hf] at h ⊢
  by_cases hs : 120 < (text (nrm (x ++ y))).size
  · rw [if_pos hs] at h; cases h
  · rw [if_neg hs]
    exact ⟨rfl, PR_text (nrm_ss _) (fun f hf' => hf f ((nrm_mem _ _).1 hf')) (by omega)⟩
theorem un_assoc {a b c : ByteArray} (h1 : (UN a b).2 = 0) (h2 : (UN c b).2 = 0) : UN (UN a b).1 c = UN a (UN c b).1 := by
  obtain ⟨x, y, ha, hb⟩ := two_ok h1
  obtain ⟨z, y', hc, hb'⟩ := two_ok h2
  obtain rfl : y = y' := by rw [hb] at hb'; exact (Prod.mk.inj hb').1
  have hu := (UN_ok ha hb h1).2
  have hv := (UN_ok hc hb h2).2
  rw [UN_def hu hc, UN_def ha hv]
  refine FM_congr (app_feat (PR_ok ha).2.2.1 (fun f hf => app_feat (PR_ok hc).2.2.1 (PR_ok hb).2.2.1 f ((nrm_mem _ _).1 hf))) (fun f => ?_)
  simp only [List.mem_append, nrm_mem]
  constructor
  · rintro ((h | h) | h)
    · exact .inl h
    · exact .inr (.inr h)
    · exact .inr (.inl h)
  · rintro (h | h | h)
    · exact .inl (.inl h)
    · exact .inr h
    · exact .inl (.inr h)
theorem is_assoc {a b c : ByteArray} (h1 : (IS a b).2 = 0) (h2 : (IS c b).2 = 0) : IS (IS a b).1 c = IS a (IS c b).1 := by
  obtain ⟨x, y, ha, hb⟩ := two_ok h1
  obtain ⟨z, y', hc, hb'⟩ := two_ok h2
  obtain rfl : y = y' := by rw [hb] at hb'; exact (Prod.mk.inj hb').1
  rw [IS_def ha hb, IS_def hc hb]
  rw [IS_def (filter_text ha _) hc, IS_def ha (filter_text hc _), List.filter_filter]
  congr 2
  refine List.filter_congr (fun f _ => ?_)
  rw [Bool.eq_iff_iff]
  simp only [Bool.and_eq_true, memb_iff, List.mem_filter]
theorem HS_iff {s f : ByteArray} {l : List ByteArray} (h : PR s = (l, 0)) : HS s f = true ↔ f ∈ l := by
  unfold HS; rw [h]; simp [memb_iff]
theorem un_member {a b f : ByteArray} (h : (UN a b).2 = 0) : HS (UN a b).1 f = (HS a f || HS b f) := by
  obtain ⟨x, y, ha, hb⟩ := two_ok h
  have hu := (UN_ok ha hb h).2
  rw [Bool.eq_iff_iff, HS_iff hu, Bool.or_eq_true, HS_iff ha, HS_iff hb, nrm_mem, List.mem_append]
theorem is_member {a b f : ByteArray} (h : (IS a b).2 = 0) : HS (IS a b).1 f = (HS a f && HS b f) := by
  obtain ⟨x, y, ha, hb⟩ := two_ok h
  rw [Bool.eq_iff_iff, IS_def ha hb, HS_iff (filter_text ha _), Bool.and_eq_true, HS_iff ha, HS_iff hb, List.mem_filter, memb_iff]
theorem all_memb {x y : List ByteArray} : x.all (memb y) = true ↔ ∀ f ∈ x, f ∈ y := by
  rw [List.all_eq_true]
  exact ⟨fun h f hf => memb_iff.1 (h f hf), fun h f hf => memb_iff.2 (h f hf)⟩
theorem sb_is {a b : ByteArray} (h : (SB a b).2 = 0) : (IS a b).2 = 0 ∧ ((IS a b).1 = a ↔ (SB a b).1 = true) := by
  obtain ⟨x, y, ha, hb⟩ := two_ok h
  rw [IS_def ha hb, SB_def ha hb]
  refine ⟨rfl, ?_⟩
  rw [all_memb]
  have hx := PR_ok ha
  constructor
  · intro e f hf
    have e2 : text (x.filter (memb y)) = text x := by rw [← hx.1]; exact e
    have e3 := text_inj (fun f hf => hx.2.2.1 f (List.mem_filter.1 hf).1) hx.2.2.1 e2
    rw [← e3] at hf
    exact memb_iff.1 (List.mem_filter.1 hf).2
  · intro hall
    have : x.filter (memb y) = x := List.filter_eq_self.2 (fun f hf => memb_iff.2 (hall f hf))
    show text (x.filter (memb y)) = a
    rw [this, ← hx.1]
theorem sb_un {a b : ByteArray} (h : (SB a b).2 = 0) : ((UN a b).2 = 0 ∧ ((UN a b).1 = b ↔ (SB a b).1 = true)) ∨ ((UN a b).2 = 2 ∧ (SB a b).1 = false) := by
  obtain ⟨x, y, ha, hb⟩ := two_ok h
  have hx := PR_ok ha
  have hy := PR_ok hb
  have hf := app_feat hx.2.2.1 hy.2.2.1
  have key : (SB a b).1 = true → UN a b = (b, 0) := fun hs => by
    rw [SB_def ha hb] at hs
    rw [UN_def ha hb]
    refine FM_same hb (fun f => ?_)
    rw [List.mem_append]
    exact ⟨fun hh => hh.elim (all_memb.1 hs f) id, .inr⟩
  cases hs : (SB a b).1 with
  | true =>
    left
    rw [key hs]
    exact ⟨rfl, by simp⟩
  | false =>
    by_cases h0 : (UN a b).2 = 0
    · left
      refine ⟨h0, ?_⟩
      constructor
      · intro e
        exfalso
        have hu := UN_ok ha hb h0
        rw [e, hb] at hu
        have e2 : y = nrm (x ++ y) := (Prod.mk.inj hu.2).1
        rw [SB_def ha hb] at hs
        have : x.all (memb y) = true := all_memb.2 (fun f hf => by rw [e2, nrm_mem]; exact List.mem_append.2 (.inl hf))
        simp only at hs
        rw [this] at hs; cases hs
      · intro hh; cases hh
    · right
      refine ⟨?_, rfl⟩
      rw [UN_def ha hb, FM_feat hf] at h0 ⊢
      by_cases hz : 120 < (text (nrm (x ++ y))).size
      · rw [if_pos hz]
      · rw [if_neg hz] at h0; exact absurd rfl h0
end Go.Proofs.Ytcgglamgemgeiaa.Q
/- FEv -/
namespace Go.Proofs.Ytcgglamgemgeiaa.Q
open Go.RowKit Go.Lib Go.Proofs.YtcgglamgemgeiaaW.PrintWords Go.Proofs.YtcgglamgemgeiaaW.PrintLast
theorem bt_nat {s : ByteArray} {i : Nat} (h : i < (bl s).length) : bt s (i : Int) = ((bl s)[i].toNat : Int) := by
  have h' : i < s.size := by rw [← bl_length]; exact h
  unfold bt
  rw [dif_pos (by rw [Int.toNat_natCast]; exact h')]
  rfl
theorem bt_124 {s : ByteArray} {i : Nat} (h : i < (bl s).length) : (bt s (i : Int) = 124) ↔ (bl s)[i] = 124 := by
  rw [bt_nat h]
  constructor
  · intro e
    exact UInt8.toNat_inj.1 (by rw [show (124 : UInt8).toNat = 124 from rfl]; omega)
  · intro e; rw [e]; rfl
theorem bl_extract (s : ByteArray) (a b : Nat) : bl (s.extract a b) = ((bl s).drop a).take (b - a) := extract_data s a b
/-! ### Parse -/
/-- Whether a list is sorted, as Parse answers. -/
def SR (l : List ByteArray) : List ByteArray × Int := if srt l = true then (l, 0) else ([], 6)
theorem srt_short {l : List ByteArray} (h : l.length ≤ 1) : srt l = true := by
  match l, h with
  | [], _ => rfl
  | [_], _ => rfl
  | _ :: _ :: _, h => simp at h
theorem parse_l1 (l : List ByteArray) (hl : l.length ≤ 1073741824) : ∀ d i : Nat, 1 ≤ i → i + d = l.length + 1 → Ev (fun k => feature_Parse.l1 k l (i : Int)) (if srt (l.drop (i - 1)) = true then (l, 0) else ([], 6)) := by
  intro d
  induction d with
  | zero =>
    intro i h1 hd
    refine Ev.step (fun k => by rw [feature_Parse.l1]) ?_
    rw [srt_short (by rw [List.length_drop]; omega), if_pos rfl]
    exact ev_neg (by omega) (Ev.now _)
  | succ d ih =>
    intro i h1 hd
    refine Ev.step (fun k => by rw [feature_Parse.l1]) ?_
    by_cases hi : i < l.length
    · refine ev_pos (by omega) ?_
      rw [wrap_dn i h1 (by omega)]
      refine ev_pos (by omega) (ev_pos (by omega) (ev_pos (by omega) ?_))
      rw [rd_nat (show i - 1 < l.length by omega), rd_nat hi, lt_eq]
      have e : l.drop (i - 1) = l[i - 1] :: l[i] :: l.drop (i + 1) := by
        rw [List.drop_eq_getElem_cons (show i - 1 < l.length by omega)]
        have : i - 1 + 1 = i := by omega
        rw [this, List.drop_eq_getElem_cons hi]
      have e2 : l.drop (i + 1 - 1) = l[i] :: l.drop (i + 1) := by rw [Nat.add_sub_cancel, List.drop_eq_getElem_cons hi]
      by_cases hlt : lt l[i - 1] l[i] = true
      · refine ev_pos hlt ?_
        rw [wrap_up i (by omega), e, srt, hlt, Bool.true_and, ← e2]
        exact ih (i + 1) (by omega) (by omega)
      · refine ev_neg hlt ?_
        rw [e, srt]
        have : lt l[i - 1] l[i] = false := by simpa using hlt
        rw [this, Bool.false_and]
        exact Ev.now _
    · obtain rfl : i = l.length := by omega
      rw [srt_short (by rw [List.length_drop]; omega), if_pos rfl]
      exact ev_neg (by omega) (Ev.now _)
/-- What is left of Parse from a place on. -/
def PL (acc : List ByteArray) (r cur : List UInt8) : List ByteArray × Int :=
  match spl r cur with
  | none => ([], 3)
  | some l => SR (acc ++ l.map mkB)
theorem parse_l0 (s : ByteArray) (hs : s.size ≤ 120) : ∀ (d i frm : Nat) (acc : List ByteArray), 1 ≤ frm → frm ≤ i → i + d = s.size → acc.length ≤ i →
    Ev (fun k => feature_Parse.l0 k s acc (frm : Int) (i : Int)) (PL acc ((bl s).drop i) (((bl s).drop frm).take (i - frm))) := by
  intro d
  induction d with
  | zero =>
    intro i frm acc h0 h1 hd ha
    refine Ev.step (fun k => by rw [feature_Parse.l0]) ?_
    refine ev_neg (by omega) ?_
    have : (bl s).drop i = [] := List.drop_eq_nil_of_le (by rw [bl_length]; omega)
    rw [this]
    have := parse_l1 acc (by omega) acc.length 1 (by omega) (by omega)
    unfold PL spl SR
    simpa using this
  | succ d ih =>
    intro i frm acc h0 h1 hd ha
    have hi : i < (bl s).length := by rw [bl_length]; omega
    refine Ev.step (fun k => by rw [feature_Parse.l0]) ?_
    refine ev_pos (by omega) (ev_pos (by omega) ?_)
    rw [List.drop_eq_getElem_cons hi]
    by_cases hb : (bl s)[i] = 124
    · refine ev_pos ((bt_124 hi).2 hb) ?_
      by_cases he : i = frm
      · refine ev_pos (by omega) ?_
        subst he
        unfold PL
        rw [Nat.sub_self, List.take_zero, spl, if_pos hb, if_pos rfl]
        exact Ev.now _
      · refine ev_neg (by omega) (ev_pos (by omega) (ev_pos (by omega) (ev_pos (by omega) (ev_pos (by omega) ?_))))
        rw [wrap_up i (by omega), Int.toNat_natCast, Int.toNat_natCast]
        refine ev_eq (ih (i + 1) (i + 1) _ (by omega) (by omega) (by omega) (by rw [List.length_append, List.length_singleton]; omega)) ?_
        unfold PL
        rw [Nat.sub_self, List.take_zero, spl, if_pos hb]
        have hne : ((bl s).drop frm).take (i - frm) ≠ [] := by
          intro h
          have := congrArg List.length h
          rw [List.length_take, List.length_drop, bl_length] at this
          simp at this; omega
        rw [if_neg hne]
        cases hsp : spl ((bl s).drop (i + 1)) [] with
        | none => rfl
        | some m =>
          have : s.extract frm i = mkB (((bl s).drop frm).take (i - frm)) := bl_inj (by rw [bl_mkB, bl_extract])
          simp [this]
    · refine ev_neg (fun h => hb ((bt_124 hi).1 h)) ?_
      rw [wrap_up i (by omega)]
      refine ev_eq (ih (i + 1) frm _ h0 (by omega) (by omega) (by omega)) ?_
      unfold PL
      rw [spl, if_neg hb]
      have : ((bl s).drop frm).take (i + 1 - frm) = ((bl s).drop frm).take (i - frm) ++ [(bl s)[i]] := by
        have e1 : i + 1 - frm = (i - frm) + 1 := by omega
        have : frm + (i - frm) = i := by omega
        rw [e1, List.take_add_one, List.getElem?_drop, this, List.getElem?_eq_getElem hi]
        rfl
      rw [this]
theorem parse_ev (s : ByteArray) : Ev (fun k => feature_Parse.f k s) (PR s) := by
  unfold feature_Parse.f markup_ValidValue.f
  refine ev_some ?_
  by_cases h0 : vv s = 0
  · refine ev_pos h0 ?_
    have hz := (vv_zero.1 h0).1
    have hpr : PR s = if (bl s).head? ≠ some 124 ∨ (bl s).getLast? ≠ some 124 then ([], 3) else PL [] (bl s).tail [] := by
      unfold PR PL SR
      rw [if_neg (by simp [h0])]
      first
        | (simp only [List.nil_append]; done)
        | (simp only [List.nil_append]; rfl)
    have three : ∀ {r : List ByteArray × Int}, r = ([], 3) → Ev (fun k => feature_Parse.j0 k s true) r := fun h => Ev.step (fun k => by rw [feature_Parse.j0]) (ev_pos rfl (ev_now h.symm))
    rw [hpr]
    rw [toList_bl]
    by_cases h1 : bl s = [124]
    · refine ev_pos h1 (ev_now ?_)
      rw [h1]; simp [PL, spl, SR, srt]
    · refine ev_neg h1 ?_
      by_cases h2 : (s.size : Int) < 2
      · refine ev_pos h2 (three ?_)
        refine if_pos (.inl ?_)
        have hl := bl_length s
        match hb : bl s with
        | [] => simp
        | [b] => rw [hb] at h1; simp at h1 ⊢; exact h1
        | _ :: _ :: _ => rw [hb] at hl; simp at hl; omega
      · refine ev_neg h2 (ev_pos (by omega) ?_)
        have hl := bl_length s
        have k0 : 0 < (bl s).length := by omega
        have k1 : s.size - 1 < (bl s).length := by omega
        have e0 : (bl s).head? = some (bl s)[0] := by rw [List.head?_eq_getElem?, List.getElem?_eq_getElem k0]
        have e1 : (bl s).getLast? = some (bl s)[s.size - 1] := by rw [List.getLast?_eq_getElem?, hl, List.getElem?_eq_getElem k1]
        rw [e0, e1, show ((s.size : Int) - 1) = ((s.size : Nat) : Int) - 1 from rfl, wrap_dn s.size (by omega) (by omega)]
        by_cases h3 : (bl s)[0] = 124
        · refine ev_pos ((bt_124 k0).2 h3) (ev_pos (by omega) (ev_pos (by omega) ?_))
          by_cases h4 : (bl s)[s.size - 1] = 124
          · have hb : (bt s ((s.size - 1 : Nat) : Int) != 124) = false := by rw [bne_eq_false_iff_eq]; exact (bt_124 k1).2 h4
            rw [hb, if_neg (by simp [h3, h4])]
            refine Ev.step (fun k => by rw [feature_Parse.j0]) (ev_neg (by simp) ?_)
            have := parse_l0 s hz (s.size - 1) 1 1 [] (by omega) (by omega) (by omega) (by simp)
            rw [Nat.sub_self, List.take_zero, List.drop_one] at this
            exact this
          · have hb : (bt s ((s.size - 1 : Nat) : Int) != 124) = true := by rw [bne_iff_ne]; exact fun h => h4 ((bt_124 k1).1 h)
            rw [hb]
            exact three (if_pos (.inr (by simp [h4])))
        · exact ev_neg (fun h => h3 ((bt_124 k0).1 h)) (three (if_pos (.inl (by simp [h3]))))
  · refine ev_neg h0 (ev_now ?_)
    unfold PR; rw [if_pos h0]
end Go.Proofs.Ytcgglamgemgeiaa.Q
/- FEv2 -/
namespace Go.Proofs.Ytcgglamgemgeiaa.Q
open Go.RowKit Go.Lib Go.Proofs.YtcgglamgemgeiaaW.PrintWords Go.Proofs.YtcgglamgemgeiaaW.PrintLast
theorem contains_loop (l : List ByteArray) (f : ByteArray) (hl : l.length ≤ 1073741824) : ∀ d i : Nat, i + d = l.length → Ev (fun k => feature_contains.l0 k f l (l.length : Int) (i : Int)) (memb (l.drop i) f) := by
  intro d
  induction d with
  | zero =>
    intro i hd
    refine Ev.step (fun k => by rw [feature_contains.l0]) ?_
    rw [List.drop_eq_nil_of_le (by omega)]
    exact ev_neg (by omega) (Ev.now _)
  | succ d ih =>
    intro i hd
    have hi : i < l.length := by omega
    refine Ev.step (fun k => by rw [feature_contains.l0]) ?_
    refine ev_pos (by omega) (ev_pos (by omega) (ev_pos (by omega) ?_))
    rw [rd_nat hi, List.drop_eq_getElem_cons hi]
    by_cases he : l[i] = f
    · refine ev_pos (toList_eq_iff.2 he) (ev_now ?_)
      unfold memb; rw [List.any_cons, decide_eq_true he, Bool.true_or]
    · refine ev_neg (fun h => he (toList_eq_iff.1 h)) ?_
      rw [wrap_up i (by omega)]
      refine ev_eq (ih (i + 1) (by omega)) ?_
      unfold memb; rw [List.any_cons, decide_eq_false he, Bool.false_or]
theorem contains_ev (l : List ByteArray) (f : ByteArray) (hl : l.length ≤ 1073741824) : Ev (fun k => feature_contains.f k l f) (memb l f) := contains_loop l f hl l.length 0 (by omega)
theorem indexByte_iff (l : List UInt8) (c : UInt8) : decide (0 ≤ Lib.indexByte l c) = decide (c ∈ l) := by
  induction l with
  | nil => simp [Lib.indexByte]
  | cons b l ih =>
    rw [Lib.indexByte]
    by_cases h : b = c
    · subst h; simp
    · have h1 : (b == c) = false := beq_eq_false_iff_ne.2 h
      rw [h1]
      have hge := Lib.indexByte_ge l c
      have hne : ¬ c = b := fun e => h e.symm
      by_cases h2 : Lib.indexByte l c = -1
      · rw [h2] at ih ⊢
        simp at ih ⊢
        exact ⟨hne, ih⟩
      · have h3 : (Lib.indexByte l c == -1) = false := beq_eq_false_iff_ne.2 h2
        rw [h3]
        have h4 : 0 ≤ Lib.indexByte l c := by omega
        rw [decide_eq_true h4] at ih
        have hm : c ∈ l := of_decide_eq_true ih.symm
        simp [hm]
        omega
theorem strings_ev (f : ByteArray) : strings_Contains.f f (⟨#[124]⟩ : ByteArray) = some (decide ((124 : UInt8) ∈ bl f)) := by
  unfold strings_Contains.f
  rw [if_pos rfl, indexByte_iff]
  rfl
/-! ### insert -/
theorem lay_get (zs : List ByteArray) : ∀ (ys : List ByteArray) (o j : Nat), o + zs.length ≤ ys.length → (lay ys o zs)[j]? = if o ≤ j ∧ j < o + zs.length then zs[j - o]? else ys[j]? := by
  induction zs with
  | nil => intro ys o j _; rw [lay, if_neg (by simp only [List.length_nil]; omega)]
  | cons z zs ih =>
    intro ys o j h
    rw [List.length_cons] at h
    rw [lay, ih _ _ _ (by rw [List.length_set]; omega), List.length_cons]
    by_cases h1 : o + 1 ≤ j ∧ j < o + 1 + zs.length
    · rw [if_pos h1, if_pos (by omega)]
      have : j - o = (j - (o + 1)) + 1 := by omega
      rw [this, List.getElem?_cons_succ]
    · rw [if_neg h1]
      by_cases h2 : j = o
      · subst h2
        rw [List.getElem?_set_self (by omega), if_pos (by omega), Nat.sub_self, List.getElem?_cons_zero]
      · rw [List.getElem?_set_ne (fun e => h2 e.symm), if_neg (by omega)]
theorem insLay_eq (l : List ByteArray) (e f : ByteArray) (i : Nat) (hi : i ≤ l.length) : (insLay (l ++ [e]) (i : Int)).set i f = l.take i ++ f :: l.drop i := by
  unfold insLay
  rw [Int.toNat_natCast]
  have hz : ((l ++ [e]).drop i).take ((l ++ [e]).length - (i + 1)) = l.drop i := by
    rw [List.drop_append_of_le_length hi, List.length_append, List.length_singleton, List.take_append_of_le_length (by rw [List.length_drop]; omega), List.take_of_length_le (by rw [List.length_drop]; omega)]
  rw [hz]
  apply List.ext_getElem?
  intro j
  have hlen : i + 1 + (l.drop i).length ≤ (l ++ [e]).length := by rw [List.length_drop, List.length_append, List.length_singleton]; omega
  by_cases h1 : j = i
  · subst h1
    rw [List.getElem?_set_self (by rw [lay_length, List.length_append, List.length_singleton]; omega), List.getElem?_append_right (by rw [List.length_take]; omega), List.length_take]
    have : j - min j l.length = 0 := by omega
    rw [this]; rfl
  · rw [List.getElem?_set_ne (fun e => h1 e.symm), lay_get _ _ _ _ hlen, List.length_drop]
    by_cases h2 : j < i
    · rw [if_neg (by omega), List.getElem?_append_left (by omega), List.getElem?_append_left (by rw [List.length_take]; omega), List.getElem?_take, if_pos h2]
    · have e0 : (l.take i ++ f :: l.drop i)[j]? = (l.drop i)[j - (i + 1)]? := by
        rw [List.getElem?_append_right (by rw [List.length_take]; omega), List.length_take]
        have e1 : j - min i l.length = (j - (i + 1)) + 1 := by omega
        rw [e1, List.getElem?_cons_succ]
      rw [e0]
      by_cases h3 : j < i + 1 + (l.length - i)
      · rw [if_pos (by omega)]
      · rw [List.getElem?_drop]
        rw [if_neg (by omega), List.getElem?_eq_none (by rw [List.length_append, List.length_singleton]; omega), List.getElem?_eq_none (by omega)]
theorem insert_j2 (l : List ByteArray) (f : ByteArray) (hl : l.length ≤ 1073741824) (i : Nat) (hi : i ≤ l.length) : Ev (fun k => feature_insert.j2 k l f (i : Int) false) (l.take i ++ f :: l.drop i) := by
  refine Ev.step (fun k => by rw [feature_insert.j2]) ?_
  refine ev_neg (by simp) (ev_pos (by omega) (ev_some ?_))
  have hy : (l ++ [(⟨#[]⟩ : ByteArray)]).length = l.length + 1 := by simp
  rw [wrap_up i (by omega), hy]
  refine ev_pos (by omega) (ev_pos (by omega) (ev_pos (by omega) (ev_pos (by omega) (ev_pos (by omega) (ev_now ?_)))))
  rw [Int.toNat_natCast]
  exact insLay_eq l _ f i hi
theorem insert_loop (l : List ByteArray) (f : ByteArray) (hl : l.length ≤ 1073741824) (hs : SS l) : ∀ i : Nat, i ≤ l.length → (∀ j (h : j < l.length), i ≤ j → lt l[j] f = false) → Ev (fun k => feature_insert.l0 k l f (i : Int)) (insB l f) := by
  have fin : ∀ i : Nat, i ≤ l.length → (∀ x ∈ l.take i, lt x f = true) → (∀ h : i < l.length, lt l[i] f = false) → Ev (fun k => feature_insert.j1 k l f (i : Int) false) (insB l f) := by
    intro i hi ht hd
    rw [insB_at f l i hi ht hd]
    refine Ev.step (fun k => by rw [feature_insert.j1]) (ev_neg (by simp) ?_)
    by_cases h : i < l.length
    · refine ev_pos (by omega) (ev_pos (by omega) ?_)
      rw [dif_pos h, rd_nat h]
      by_cases he : l[i] = f
      · rw [if_pos he, he]
        refine Ev.step (fun k => by rw [feature_insert.j2]) (ev_pos (by simp) (Ev.now _))
      · rw [if_neg he]
        have : (l[i].toList == f.toList) = false := beq_eq_false_iff_ne.2 (fun h => he (toList_eq_iff.1 h))
        rw [this]
        exact insert_j2 l f hl i hi
    · rw [dif_neg h]
      exact ev_neg (by omega) (insert_j2 l f hl i hi)
  intro i
  induction i with
  | zero =>
    intro _ h
    refine Ev.step (fun k => by rw [feature_insert.l0]) (ev_neg (by omega) ?_)
    exact fin 0 (by omega) (by simp) (fun h' => h 0 h' (Nat.le_refl _))
  | succ i ih =>
    intro hi h
    have hi' : i < l.length := by omega
    refine Ev.step (fun k => by rw [feature_insert.l0]) (ev_pos (by omega) ?_)
    rw [wrap_dn (i + 1) (by omega) (by omega), Nat.add_sub_cancel]
    refine ev_pos (by omega) (ev_pos (by omega) ?_)
    rw [rd_nat hi', lt_eq]
    cases hlt : lt l[i] f with
    | false =>
      refine Ev.step (fun k => by rw [feature_insert.j1]) (ev_pos (show (!false) = true from rfl) ?_)
      rw [wrap_dn (i + 1) (by omega) (by omega), Nat.add_sub_cancel]
      refine ih (by omega) (fun j hj hij => ?_)
      rcases Nat.lt_or_ge i j with h1 | h1
      · exact h j hj h1
      · obtain rfl : j = i := by omega
        exact hlt
    | true =>
      refine fin (i + 1) hi (fun x hx => ?_) (fun h' => h (i + 1) h' (Nat.le_refl _))
      rw [List.take_add_one, List.getElem?_eq_getElem hi', List.mem_append] at hx
      rcases hx with hx | hx
      · obtain ⟨j, hj, rfl⟩ := List.mem_iff_getElem.1 hx
        rw [List.length_take] at hj
        rw [List.getElem_take]
        exact lt_trans (List.pairwise_iff_getElem.1 hs j i (by omega) hi' (by omega)) hlt
      · simp at hx; rw [hx]; exact hlt
theorem insert_ev (l : List ByteArray) (f : ByteArray) (hl : l.length ≤ 1073741824) (hs : SS l) : Ev (fun k => feature_insert.f k l f) (insB l f) :=
  insert_loop l f hl hs l.length (Nat.le_refl _) (fun j h hj => by omega)
/-! ### Format -/
theorem format_l1 (l : List ByteArray) (hl : l.length ≤ 1073741824) (hsz : ∀ g ∈ l, g.size ≤ 120) : ∀ (d i : Nat) (out : ByteArray), i + d = l.length → out.size ≤ 120 →
    Ev (fun k => feature_Format.l1 k out l (l.length : Int) (i : Int)) (if 120 < out.size + (tailT (l.drop i)).length then (⟨#[]⟩, 2) else (mkB (bl out ++ tailT (l.drop i)), 0)) := by
  intro d
  induction d with
  | zero =>
    intro i out hd ho
    refine Ev.step (fun k => by rw [feature_Format.l1]) (ev_neg (by omega) (ev_now ?_))
    rw [List.drop_eq_nil_of_le (by omega), tailT, List.append_nil, mkB_bl]
    rw [if_neg (by simp; omega)]
  | succ d ih =>
    intro i out hd ho
    have hi : i < l.length := by omega
    have hg := hsz l[i] (List.getElem_mem hi)
    refine Ev.step (fun k => by rw [feature_Format.l1]) (ev_pos (by omega) (ev_pos (by omega) (ev_pos (by omega) ?_)))
    rw [rd_nat hi]
    have s1 : (l[i] ++ (⟨#[124]⟩ : ByteArray)).size = l[i].size + 1 := by rw [ByteArray.size_append]; rfl
    have s2 : (out ++ (l[i] ++ (⟨#[124]⟩ : ByteArray))).size = out.size + (l[i].size + 1) := by rw [ByteArray.size_append, s1]
    rw [s1, s2]
    refine ev_pos (by omega) (ev_pos (by omega) ?_)
    have ht : tailT (l.drop i) = bl l[i] ++ 124 :: tailT (l.drop (i + 1)) := by rw [List.drop_eq_getElem_cons hi, tailT]
    have htl : (tailT (l.drop i)).length = l[i].size + 1 + (tailT (l.drop (i + 1))).length := by rw [ht, List.length_append, List.length_cons, bl_length]; omega
    by_cases h : ((out.size + (l[i].size + 1) : Nat) : Int) > 120
    · refine ev_pos h (ev_now ?_)
      rw [if_pos (by omega)]
    · refine ev_neg h ?_
      rw [wrap_up i (by omega)]
      refine ev_eq (ih (i + 1) _ (by omega) (by rw [s2]; omega)) ?_
      rw [s2, htl]
      have e : out.size + (l[i].size + 1) + (tailT (l.drop (i + 1))).length = out.size + (l[i].size + 1 + (tailT (l.drop (i + 1))).length) := by omega
      rw [e]
      have e2 : bl (out ++ (l[i] ++ (⟨#[124]⟩ : ByteArray))) ++ tailT (l.drop (i + 1)) = bl out ++ tailT (l.drop i) := by
        rw [bl_append, bl_append, ht]
        show bl out ++ (bl l[i] ++ [124]) ++ _ = _
        simp
      rw [e2]
/-- What is left of Format behind its first loop. -/
def FMof (r : List ByteArray × Int) : ByteArray × Int := if r.2 ≠ 0 then (⟨#[]⟩, r.2) else if 120 < (text r.1).size then (⟨#[]⟩, 2) else (text r.1, 0)
theorem insB_small {acc : List ByteArray} {f : ByteArray} (h : ∀ g ∈ acc, g.size ≤ 120) (hf : f.size ≤ 120) : ∀ g ∈ insB acc f, g.size ≤ 120 := fun g hg => (mem_insB.1 hg).elim (h g) (fun e => e ▸ hf)
theorem format_l0 (m : List ByteArray) (hm : m.length ≤ 1073741824) : ∀ (d i : Nat) (acc : List ByteArray), i + d = m.length → SS acc → acc.length ≤ i → (∀ g ∈ acc, g.size ≤ 120) →
    Ev (fun k => feature_Format.l0 k acc m (m.length : Int) (i : Int)) (FMof (fmGo (m.drop i) acc)) := by
  intro d
  induction d with
  | zero =>
    intro i acc hd hs ha hz
    refine Ev.step (fun k => by rw [feature_Format.l0]) (ev_neg (by omega) ?_)
    rw [List.drop_eq_nil_of_le (by omega), fmGo]
    refine ev_eq (format_l1 acc (by omega) hz acc.length 0 (⟨#[124]⟩ : ByteArray) (by omega) (by decide)) ?_
    unfold FMof
    simp only [ne_eq, not_true_eq_false, if_false]
    rw [size_text]
    rfl
  | succ d ih =>
    intro i acc hd hs ha hz
    have hi : i < m.length := by omega
    refine Ev.step (fun k => by rw [feature_Format.l0]) (ev_pos (by omega) (ev_pos (by omega) (ev_pos (by omega) ?_)))
    rw [rd_nat hi, List.drop_eq_getElem_cons hi, fmGo]
    unfold markup_ValidValue.f
    refine ev_some ?_
    by_cases h0 : vv m[i] = 0
    · refine ev_pos h0 ?_
      rw [if_neg (by simp [h0]), toList_bl]
      by_cases h1 : bl m[i] = []
      · refine ev_pos h1 (ev_now ?_)
        rw [if_pos (.inl h1)]; rfl
      · refine ev_neg h1 ?_
        rw [strings_ev]
        refine ev_some ?_
        by_cases h2 : (124 : UInt8) ∈ bl m[i]
        · refine ev_pos (by simp [h2]) (ev_now ?_)
          rw [if_pos (.inr h2)]; rfl
        · refine ev_neg (by simp [h2]) ?_
          rw [if_neg (by simp [h1, h2])]
          refine Ev.bind (insert_ev acc m[i] (by omega) hs) ?_
          rw [wrap_up i (by omega)]
          exact ih (i + 1) _ (by omega) (ss_insB hs) (by have := insB_length acc m[i]; omega) (insB_small hz (vv_zero.1 h0).1)
    · refine ev_neg h0 (ev_now ?_)
      rw [if_pos h0]
      unfold FMof
      rw [if_pos h0]
theorem format_ev (m : List ByteArray) (hm : m.length ≤ 1073741824) : Ev (fun k => feature_Format.f k m) (FM m) :=
  format_l0 m hm m.length 0 [] (by omega) List.Pairwise.nil (by simp) (by simp)
end Go.Proofs.Ytcgglamgemgeiaa.Q
/- FFeatureHas -/
namespace Go.Proofs.Ytcgglamgemgeiaa.Q
open Go.RowKit Go.Proofs.YtcgglamgemgeiaaW.PrintWords Go.Proofs.YtcgglamgemgeiaaW.PrintLast Go.Proofs.YtcgglamgemgeiaaW.PrintMore
attribute [local go_sem] max2_int min2_int max_two min_two max_three min_three max_four min_four   -- for this text's walks alone
set_option linter.unusedVariables false
set_option linter.unusedSimpArgs false

/-! ### feature_Has: function 18 -/
def feature_Has.f (k : Nat) (a0 : ByteArray) (a1 : ByteArray) : Option (Bool) := (feature_Parse.f k a0).bind fun bt321 => (if bt321.2 = 0 then ((feature_contains.f k bt321.1 a1).bind fun t325 => (some t325)) else (some false))
theorem feature_Has.mono : ∀ a0 a1 k, LeO (feature_Has.f k a0 a1) (feature_Has.f (k + 1) a0 a1) := by
  intro a0 a1 k
  unfold feature_Has.f
  repeat' first
      | (with_reducible exact feature_Parse.mono _ _)
      | (with_reducible exact feature_contains.mono _ _ _)
      | (with_reducible exact LeO.refl _)
      | (with_reducible exact LeO.none _)
      | (with_reducible refine LeO.ite ?_ ?_)
      | (with_reducible refine LeO.bind ?_ (fun _ => ?_))
      | exact feature_Parse.mono _ _
      | exact feature_contains.mono _ _ _
      | exact LeO.none _
      | refine LeO.ite ?_ ?_
      | refine LeO.bind ?_ (fun _ => ?_)
set_option maxHeartbeats 8000000 in
set_option maxRecDepth 100000 in
theorem feature_Has.calls (k : Nat) (a0 : ByteArray) (a1 : ByteArray) (r : Bool) (w : World) (h : feature_Has.f k a0 a1 = some r) :
    Calls Try.prog 18 #[.string a0, .string a1] w fun e w' => e = .returned (.bool r) ∧ Below w.heap.size w w' := by
  have HB := Aside0.mk (Below.refl w.heap.size w)
  have H : ((feature_Parse.f k a0).bind fun bt321 => (if bt321.2 = 0 then ((feature_contains.f k bt321.1 a1).bind fun t325 => (some t325)) else (some false))) = some r := h
  clear h
  replace H := Option.bind_eq_some_iff.mp H
  obtain ⟨⟨t321, t322⟩, A30, H⟩ := H
  replace H : (if t322 = 0 then ((feature_contains.f k t321 a1).bind fun t325 => (some t325)) else (some false)) = some r := H
  have A3 := Aside0.mk A30
  clear A30
  by_cases c4 : t322 = 0
  · rw [if_pos c4] at H
    have c4b0 : (t322 == 0) = true := beq_iff_eq.mpr c4
    have c4b1 : (t322 != 0) = false := bne_eq_false_iff_eq.mpr c4
    clear c4
    replace H := Option.bind_eq_some_iff.mp H
    obtain ⟨t325, A50, H⟩ := H
    replace H : (some t325) = some r := H
    have A5 := Aside0.mk A50
    clear A50
    obtain rfl := Option.some.inj H
    go_enter Try.func18, Try.ntmps18
    go_wp2_with (first | ((with_reducible refine gate_callee (f := 12) rfl ?_); refine goesL_ (some 9) rfl rfl Try.func12 (by kernel_rfl) rfl #[.string a0] rfl (by (try simp only [List.map_toArray, List.map_cons, List.map_nil]); first | done | rfl | (simp only [List.length_drop, List.length_take]; rfl)) ?_; (with_reducible refine (feature_Parse.calls k a0 t321 t322 _ A3.out).mono ?_); rintro e w6 ⟨v323, rfl, ho0, hb⟩; refine ⟨_, rfl, ?_⟩; have n0_ := Aside0.mk (Kd.R_lower ho0 (below_size (by repeat (first | (with_reducible first | exact HB.out | apply below_alloc | apply pw_below_drewN | apply below_drew1) | exact HB.out)))); have n1_ := Aside0.mk (below_step (by repeat (first | (with_reducible first | exact HB.out | apply below_alloc | apply pw_below_drewN | apply below_drew1) | exact HB.out)) hb); clear HB; have HO324 := n0_; have HB := n1_; clear n0_ n1_; (try clear hb); (try clear hb2); (try clear hk); (try clear hi); (try clear ho0); obtain ⟨Ao7, co7, eo7⟩ := Kd.R_slice HO324.out; subst eo7) | (go_at_call 33; (with_reducible refine (feature_contains.calls k _ _ t321 a1 t325 _ ?side1 ?side2 A5.out).mono ?_); (case side1 => repeat (first | exact (Kd.R_reads' HO324.out).2.2 | (with_reducible refine Kd.C_alloc ?_ _) | (with_reducible refine Kd.C_drewN ?_ _) | (with_reducible refine Kd.C_drew ?_))); (case side2 => exact (Kd.R_reads' HO324.out).2.1); rintro e w' ⟨rfl, ⟨nd, rfl⟩⟩))
    go_ret
    exact ⟨by first | rfl | (simp [errW_none, errW_some] <;> rfl) | (simp [*, errW_none, errW_some] <;> rfl), by repeat (first | (with_reducible first | exact HB.out | apply below_alloc | apply pw_below_drewN | apply below_drew1) | exact HB.out)⟩
  · rw [if_neg c4] at H
    have c4b0 : (t322 == 0) = false := beq_eq_false_iff_ne.mpr c4
    have c4b1 : (t322 != 0) = true := bne_iff_ne.mpr c4
    obtain rfl := Option.some.inj H
    go_enter Try.func18, Try.ntmps18
    go_wp2_with (first | ((with_reducible refine gate_callee (f := 12) rfl ?_); refine goesL_ (some 9) rfl rfl Try.func12 (by kernel_rfl) rfl #[.string a0] rfl (by (try simp only [List.map_toArray, List.map_cons, List.map_nil]); first | done | rfl | (simp only [List.length_drop, List.length_take]; rfl)) ?_; (with_reducible refine (feature_Parse.calls k a0 t321 t322 _ A3.out).mono ?_); rintro e w8 ⟨v323, rfl, ho0, hb⟩; refine ⟨_, rfl, ?_⟩; have n0_ := Aside0.mk (Kd.R_lower ho0 (below_size (by repeat (first | (with_reducible first | exact HB.out | apply below_alloc | apply pw_below_drewN | apply below_drew1) | exact HB.out)))); have n1_ := Aside0.mk (below_step (by repeat (first | (with_reducible first | exact HB.out | apply below_alloc | apply pw_below_drewN | apply below_drew1) | exact HB.out)) hb); clear HB; have HO324 := n0_; have HB := n1_; clear n0_ n1_; (try clear hb); (try clear hb2); (try clear hk); (try clear hi); (try clear ho0)))
    go_ret
    exact ⟨by first | rfl | (simp [errW_none, errW_some] <;> rfl) | (simp [*, errW_none, errW_some] <;> rfl), by repeat (first | (with_reducible first | exact HB.out | apply below_alloc | apply pw_below_drewN | apply below_drew1) | exact HB.out)⟩

end Go.Proofs.Ytcgglamgemgeiaa.Q
/- FEv3 -/
namespace Go.Proofs.Ytcgglamgemgeiaa.Q
open Go.RowKit Go.Lib Go.Proofs.YtcgglamgemgeiaaW.PrintWords Go.Proofs.YtcgglamgemgeiaaW.PrintLast
theorem PR_len (s : ByteArray) : (PR s).1.length ≤ 120 := by
  by_cases h : (PR s).2 = 0
  · obtain ⟨h1, _, _, h4⟩ := PR_ok (PR_eta h)
    have h5 : s.size = 1 + (tailT (PR s).1).length := by rw [← size_text, ← h1]
    have := len_tail (PR s).1
    omega
  · rw [PR_err h]; simp
/-- The answer of parseAll at two sets. -/
def PA (a b : ByteArray) : List (List ByteArray) × Int := if (PR a).2 ≠ 0 then ([], (PR a).2) else if (PR b).2 ≠ 0 then ([], (PR b).2) else ([(PR a).1, (PR b).1], 0)
theorem parseAll_ev (a b : ByteArray) : Ev (fun k => feature_parseAll.f k [a, b]) (PA a b) := by
  unfold feature_parseAll.f PA
  have w1 : wrap64 ((0 : Int) + 1) = 1 := by unfold wrap64; omega
  have w2 : wrap64 ((1 : Int) + 1) = 2 := by unfold wrap64; omega
  have hl : (([a, b] : List ByteArray).length : Int) = 2 := rfl
  rw [hl]
  refine Ev.step (fun k => by rw [feature_parseAll.l0]) ?_
  refine ev_pos (by omega) (ev_pos (by omega) (ev_pos (by simp) ?_))
  rw [w1]
  refine Ev.bind (parse_ev a) ?_
  by_cases h1 : (PR a).2 = 0
  · refine ev_pos h1 (ev_pos (by simp) ?_)
    rw [if_neg (by simp [h1])]
    refine Ev.step (fun k => by rw [feature_parseAll.l0]) ?_
    refine ev_pos (by omega) (ev_pos (by omega) (ev_pos (by simp) ?_))
    rw [w2]
    refine Ev.bind (parse_ev b) ?_
    by_cases h2 : (PR b).2 = 0
    · refine ev_pos h2 (ev_pos (by simp) ?_)
      rw [if_neg (by simp [h2])]
      refine Ev.step (fun k => by rw [feature_parseAll.l0]) ?_
      exact ev_neg (by omega) (Ev.now _)
    · refine ev_neg h2 (ev_now ?_)
      rw [if_pos h2]
  · refine ev_neg h1 (ev_now ?_)
    rw [if_pos h1]
theorem union_ev (a b : ByteArray) : Ev (fun k => feature_Union.f k a b) (UN a b) := by
  unfold feature_Union.f
  refine Ev.bind (parseAll_ev a b) ?_
  unfold PA UN
  by_cases h1 : (PR a).2 = 0
  · by_cases h2 : (PR b).2 = 0
    · rw [if_neg (by simp [h1]), if_neg (by simp [h2]), if_neg (by simp [h1]), if_neg (by simp [h2])]
      have l1 := PR_len a
      have l2 := PR_len b
      refine ev_pos rfl (ev_pos (by simp) (ev_pos (by simp) (ev_pos (show (PR a).1.length + (PR b).1.length < 8796093022208 by omega) ?_)))
      refine Ev.bind (format_ev ((PR a).1 ++ (PR b).1) (by rw [List.length_append]; omega)) (ev_now rfl)
    · rw [if_neg (by simp [h1]), if_pos h2, if_neg (by simp [h1]), if_pos h2]
      exact ev_neg h2 (Ev.now _)
  · rw [if_pos h1, if_pos h1]
    exact ev_neg h1 (Ev.now _)
theorem intersect_loop (x y : List ByteArray) (hx : x.length ≤ 120) (hy : y.length ≤ 120) : ∀ (d i : Nat) (acc : List ByteArray), i + d = x.length → acc.length ≤ i →
    Ev (fun k => feature_Intersect.l0 k [x, y] acc x (x.length : Int) (i : Int)) (FM (acc ++ (x.drop i).filter (memb y))) := by
  intro d
  induction d with
  | zero =>
    intro i acc hd ha
    refine Ev.step (fun k => by rw [feature_Intersect.l0]) (ev_neg (by omega) ?_)
    rw [List.drop_eq_nil_of_le (by omega), List.filter_nil, List.append_nil]
    exact Ev.bind (format_ev acc (by omega)) (ev_now rfl)
  | succ d ih =>
    intro i acc hd ha
    have hi : i < x.length := by omega
    refine Ev.step (fun k => by rw [feature_Intersect.l0]) (ev_pos (by omega) (ev_pos (by omega) (ev_pos (by omega) (ev_pos (by simp) ?_))))
    rw [rd_nat hi]
    refine Ev.bind (contains_ev y x[i] (by omega)) ?_
    have hdr : x.drop i = x[i] :: x.drop (i + 1) := List.drop_eq_getElem_cons hi
    rw [wrap_up i (by omega)]
    cases hm : memb y x[i] with
    | true =>
      refine ev_pos rfl (ev_pos (by omega) ?_)
      refine ev_eq (ih (i + 1) _ (by omega) (by rw [List.length_append, List.length_singleton]; omega)) ?_
      rw [hdr, List.filter_cons, hm, if_pos rfl, List.append_assoc]; rfl
    | false =>
      refine ev_neg (by simp) ?_
      refine ev_eq (ih (i + 1) _ (by omega) (by omega)) ?_
      rw [hdr, List.filter_cons, hm, if_neg (by simp)]
theorem intersect_ev (a b : ByteArray) : Ev (fun k => feature_Intersect.f k a b) (IS a b) := by
  unfold feature_Intersect.f
  refine Ev.bind (parseAll_ev a b) ?_
  unfold PA IS
  by_cases h1 : (PR a).2 = 0
  · by_cases h2 : (PR b).2 = 0
    · rw [if_neg (by simp [h1]), if_neg (by simp [h2]), if_neg (by simp [h1]), if_neg (by simp [h2])]
      refine ev_pos rfl (ev_pos (by simp) ?_)
      refine ev_eq (intersect_loop (PR a).1 (PR b).1 (PR_len a) (PR_len b) (PR a).1.length 0 [] (by omega) (by simp)) ?_
      rw [List.drop_zero, List.nil_append]
      exact FM_same (filter_text (PR_eta h1) (memb (PR b).1)) (fun _ => Iff.rfl)
    · rw [if_neg (by simp [h1]), if_pos h2, if_neg (by simp [h1]), if_pos h2]
      exact ev_neg h2 (Ev.now _)
  · rw [if_pos h1, if_pos h1]
    exact ev_neg h1 (Ev.now _)
theorem subset_loop (x y : List ByteArray) (hx : x.length ≤ 120) (hy : y.length ≤ 120) : ∀ (d i : Nat), i + d = x.length →
    Ev (fun k => feature_Subset.l0 k [x, y] x (x.length : Int) (i : Int)) ((x.drop i).all (memb y), 0) := by
  intro d
  induction d with
  | zero =>
    intro i hd
    refine Ev.step (fun k => by rw [feature_Subset.l0]) (ev_neg (by omega) ?_)
    rw [List.drop_eq_nil_of_le (by omega)]
    exact Ev.now _
  | succ d ih =>
    intro i hd
    have hi : i < x.length := by omega
    refine Ev.step (fun k => by rw [feature_Subset.l0]) (ev_pos (by omega) (ev_pos (by omega) (ev_pos (by omega) (ev_pos (by simp) ?_))))
    rw [rd_nat hi]
    refine Ev.bind (contains_ev y x[i] (by omega)) ?_
    have hdr : x.drop i = x[i] :: x.drop (i + 1) := List.drop_eq_getElem_cons hi
    rw [wrap_up i (by omega)]
    cases hm : memb y x[i] with
    | true =>
      refine ev_pos rfl ?_
      refine ev_eq (ih (i + 1) (by omega)) ?_
      rw [hdr, List.all_cons, hm, Bool.true_and]
    | false =>
      refine ev_neg (by simp) (ev_now ?_)
      rw [hdr, List.all_cons, hm, Bool.false_and]
theorem subset_ev (a b : ByteArray) : Ev (fun k => feature_Subset.f k a b) (SB a b) := by
  unfold feature_Subset.f
  refine Ev.bind (parseAll_ev a b) ?_
  unfold PA SB
  by_cases h1 : (PR a).2 = 0
  · by_cases h2 : (PR b).2 = 0
    · rw [if_neg (by simp [h1]), if_neg (by simp [h2]), if_neg (by simp [h1]), if_neg (by simp [h2])]
      exact ev_pos rfl (ev_pos (by simp) (subset_loop (PR a).1 (PR b).1 (PR_len a) (PR_len b) (PR a).1.length 0 (by omega)))
    · rw [if_neg (by simp [h1]), if_pos h2, if_neg (by simp [h1]), if_pos h2]
      exact ev_neg h2 (Ev.now _)
  · rw [if_pos h1, if_pos h1]
    exact ev_neg h1 (Ev.now _)
theorem has_ev (s f : ByteArray) : Ev (fun k => feature_Has.f k s f) (HS s f) := by
  unfold feature_Has.f HS
  refine Ev.bind (parse_ev s) ?_
  by_cases h : (PR s).2 = 0
  · refine ev_pos h (Ev.bind (contains_ev _ f (by have := PR_len s; omega)) (ev_now ?_))
    simp [h]
  · refine ev_neg h (ev_now ?_)
    simp [h]
/-! ### the examples -/
theorem awake_fm : FM [(⟨#[98]⟩ : ByteArray), (⟨#[97]⟩ : ByteArray), (⟨#[98]⟩ : ByteArray)] = (⟨#[124, 97, 124, 98, 124]⟩, 0) := by decide +kernel
theorem awake_pr : PR (⟨#[124]⟩ : ByteArray) = ([], 0) := by decide +kernel
theorem awake_un : UN (⟨#[124, 97, 124]⟩ : ByteArray) (⟨#[124, 98, 124]⟩ : ByteArray) = (⟨#[124, 97, 124, 98, 124]⟩, 0) := by decide +kernel
theorem awake_ev : Ev (fun k => corporalaw05_awake.f k) true := by
  unfold corporalaw05_awake.f
  refine Ev.bind (format_ev _ (by simp)) (Ev.bind (parse_ev _) (Ev.bind (union_ev _ _) ?_))
  rw [awake_fm, awake_pr, awake_un]
  have e : (⟨#[124, 97, 124, 98, 124]⟩ : ByteArray).toList = ([124, 97, 124, 98, 124] : List UInt8) := by rw [toList_bl]; rfl
  exact ev_pos e (ev_pos rfl (ev_pos rfl (ev_pos rfl (ev_pos e (ev_now rfl)))))
end Go.Proofs.Ytcgglamgemgeiaa.Q
/- FCorporaref05Has -/
namespace Go.Proofs.Ytcgglamgemgeiaa.Q
open Go.RowKit Go.Proofs.YtcgglamgemgeiaaW.PrintWords Go.Proofs.YtcgglamgemgeiaaW.PrintLast Go.Proofs.YtcgglamgemgeiaaW.PrintMore
attribute [local go_sem] max2_int min2_int max_two min_two max_three min_three max_four min_four   -- for this text's walks alone
set_option linter.unusedVariables false
set_option linter.unusedSimpArgs false

/-! ### corporaref05_Has: function 19 -/
def corporaref05_Has.f (k : Nat) (a0 : ByteArray) (a1 : ByteArray) : Option (Bool) := (corporaref05_Parse.f k a0).bind fun bt327 => (if bt327.2 = 0 then ((corporaref05_member.f k bt327.1 a1).bind fun t331 => (some t331)) else (some false))
theorem corporaref05_Has.mono : ∀ a0 a1 k, LeO (corporaref05_Has.f k a0 a1) (corporaref05_Has.f (k + 1) a0 a1) := by
  intro a0 a1 k
  unfold corporaref05_Has.f
  repeat' first
      | (with_reducible exact corporaref05_Parse.mono _ _)
      | (with_reducible exact corporaref05_member.mono _ _ _)
      | (with_reducible exact LeO.refl _)
      | (with_reducible exact LeO.none _)
      | (with_reducible refine LeO.ite ?_ ?_)
      | (with_reducible refine LeO.bind ?_ (fun _ => ?_))
      | exact corporaref05_Parse.mono _ _
      | exact corporaref05_member.mono _ _ _
      | exact LeO.none _
      | refine LeO.ite ?_ ?_
      | refine LeO.bind ?_ (fun _ => ?_)
set_option maxHeartbeats 8000000 in
set_option maxRecDepth 100000 in
theorem corporaref05_Has.calls (k : Nat) (a0 : ByteArray) (a1 : ByteArray) (r : Bool) (w : World) (h : corporaref05_Has.f k a0 a1 = some r) :
    Calls Try.prog 19 #[.string a0, .string a1] w fun e w' => e = .returned (.bool r) ∧ Below w.heap.size w w' := by
  have HB := Aside0.mk (Below.refl w.heap.size w)
  have H : ((corporaref05_Parse.f k a0).bind fun bt327 => (if bt327.2 = 0 then ((corporaref05_member.f k bt327.1 a1).bind fun t331 => (some t331)) else (some false))) = some r := h
  clear h
  replace H := Option.bind_eq_some_iff.mp H
  obtain ⟨⟨t327, t328⟩, A30, H⟩ := H
  replace H : (if t328 = 0 then ((corporaref05_member.f k t327 a1).bind fun t331 => (some t331)) else (some false)) = some r := H
  have A3 := Aside0.mk A30
  clear A30
  by_cases c4 : t328 = 0
  · rw [if_pos c4] at H
    have c4b0 : (t328 == 0) = true := beq_iff_eq.mpr c4
    have c4b1 : (t328 != 0) = false := bne_eq_false_iff_eq.mpr c4
    clear c4
    replace H := Option.bind_eq_some_iff.mp H
    obtain ⟨t331, A50, H⟩ := H
    replace H : (some t331) = some r := H
    have A5 := Aside0.mk A50
    clear A50
    obtain rfl := Option.some.inj H
    go_enter Try.func19, Try.ntmps19
    go_wp2_with (first | ((with_reducible refine gate_callee (f := 13) rfl ?_); refine goesL_ (some 9) rfl rfl Try.func13 (by kernel_rfl) rfl #[.string a0] rfl (by (try simp only [List.map_toArray, List.map_cons, List.map_nil]); first | done | rfl | (simp only [List.length_drop, List.length_take]; rfl)) ?_; (with_reducible refine (corporaref05_Parse.calls k a0 t327 t328 _ A3.out).mono ?_); rintro e w6 ⟨v329, rfl, ho0, hb⟩; refine ⟨_, rfl, ?_⟩; have n0_ := Aside0.mk (Kd.R_lower ho0 (below_size (by repeat (first | (with_reducible first | exact HB.out | apply below_alloc | apply pw_below_drewN | apply below_drew1) | exact HB.out)))); have n1_ := Aside0.mk (below_step (by repeat (first | (with_reducible first | exact HB.out | apply below_alloc | apply pw_below_drewN | apply below_drew1) | exact HB.out)) hb); clear HB; have HO330 := n0_; have HB := n1_; clear n0_ n1_; (try clear hb); (try clear hb2); (try clear hk); (try clear hi); (try clear ho0); obtain ⟨Ao7, co7, eo7⟩ := Kd.R_slice HO330.out; subst eo7) | (go_at_call 34; (with_reducible refine (corporaref05_member.calls k _ _ t327 a1 t331 _ ?side1 ?side2 A5.out).mono ?_); (case side1 => repeat (first | exact (Kd.R_reads' HO330.out).2.2 | (with_reducible refine Kd.C_alloc ?_ _) | (with_reducible refine Kd.C_drewN ?_ _) | (with_reducible refine Kd.C_drew ?_))); (case side2 => exact (Kd.R_reads' HO330.out).2.1); rintro e w' ⟨rfl, ⟨nd, rfl⟩⟩))
    go_ret
    exact ⟨by first | rfl | (simp [errW_none, errW_some] <;> rfl) | (simp [*, errW_none, errW_some] <;> rfl), by repeat (first | (with_reducible first | exact HB.out | apply below_alloc | apply pw_below_drewN | apply below_drew1) | exact HB.out)⟩
  · rw [if_neg c4] at H
    have c4b0 : (t328 == 0) = false := beq_eq_false_iff_ne.mpr c4
    have c4b1 : (t328 != 0) = true := bne_iff_ne.mpr c4
    obtain rfl := Option.some.inj H
    go_enter Try.func19, Try.ntmps19
    go_wp2_with (first | ((with_reducible refine gate_callee (f := 13) rfl ?_); refine goesL_ (some 9) rfl rfl Try.func13 (by kernel_rfl) rfl #[.string a0] rfl (by (try simp only [List.map_toArray, List.map_cons, List.map_nil]); first | done | rfl | (simp only [List.length_drop, List.length_take]; rfl)) ?_; (with_reducible refine (corporaref05_Parse.calls k a0 t327 t328 _ A3.out).mono ?_); rintro e w8 ⟨v329, rfl, ho0, hb⟩; refine ⟨_, rfl, ?_⟩; have n0_ := Aside0.mk (Kd.R_lower ho0 (below_size (by repeat (first | (with_reducible first | exact HB.out | apply below_alloc | apply pw_below_drewN | apply below_drew1) | exact HB.out)))); have n1_ := Aside0.mk (below_step (by repeat (first | (with_reducible first | exact HB.out | apply below_alloc | apply pw_below_drewN | apply below_drew1) | exact HB.out)) hb); clear HB; have HO330 := n0_; have HB := n1_; clear n0_ n1_; (try clear hb); (try clear hb2); (try clear hk); (try clear hi); (try clear ho0)))
    go_ret
    exact ⟨by first | rfl | (simp [errW_none, errW_some] <;> rfl) | (simp [*, errW_none, errW_some] <;> rfl), by repeat (first | (with_reducible first | exact HB.out | apply below_alloc | apply pw_below_drewN | apply below_drew1) | exact HB.out)⟩

end Go.Proofs.Ytcgglamgemgeiaa.Q
/- FCorporalaw05Equal -/
namespace Go.Proofs.Ytcgglamgemgeiaa.Q
open Go.RowKit Go.Proofs.YtcgglamgemgeiaaW.PrintWords Go.Proofs.YtcgglamgemgeiaaW.PrintLast Go.Proofs.YtcgglamgemgeiaaW.PrintMore
attribute [local go_sem] max2_int min2_int max_two min_two max_three min_three max_four min_four   -- for this text's walks alone
set_option linter.unusedVariables false
set_option linter.unusedSimpArgs false

/-! ### corporalaw05_equal: function 14 -/
def corporalaw05_equal.l0 : Nat → List ByteArray → List ByteArray → Int → Int → Option (Bool)
  | 0, _, _, _, _ => none
  | k + 1, x0, x1, x12, x13 => if x13 < x12 then (if 0 ≤ x13 then (if x13 < (x0.length : Int) then (if x13 < (x1.length : Int) then (if (rdOf ByteArray.empty x0 x13).toList = (rdOf ByteArray.empty x1 x13).toList then (corporalaw05_equal.l0 k x0 x1 x12 (wrap64 (x13 + 1))) else (some false)) else (none)) else (none)) else (none)) else (some true)
def corporalaw05_equal.f (k : Nat) (l0 : List ByteArray) (l1 : List ByteArray) : Option (Bool) := if (l0.length : Int) = (l1.length : Int) then (corporalaw05_equal.l0 k l0 l1 (l0.length : Int) 0) else (some false)
theorem corporalaw05_equal.mono_l : ∀ k, (∀ y0 y1 y2 y3, LeO (corporalaw05_equal.l0 k y0 y1 y2 y3) (corporalaw05_equal.l0 (k + 1) y0 y1 y2 y3))
  | 0 => fun _ _ _ _ r h => by simp [corporalaw05_equal.l0] at h
  | k + 1 => by
    have ih0 := corporalaw05_equal.mono_l k
    · intro y0 y1 y2 y3
      unfold corporalaw05_equal.l0
      repeat' first
      | (with_reducible exact ih0 _ _ _ _)
      | (with_reducible exact LeO.refl _)
      | (with_reducible exact LeO.none _)
      | (with_reducible refine LeO.ite ?_ ?_)
      | (with_reducible refine LeO.bind ?_ (fun _ => ?_))
      | exact ih0 _ _ _ _
      | exact LeO.none _
      | refine LeO.ite ?_ ?_
      | refine LeO.bind ?_ (fun _ => ?_)
theorem corporalaw05_equal.mono : ∀ a0 a1 k, LeO (corporalaw05_equal.f k a0 a1) (corporalaw05_equal.f (k + 1) a0 a1) := by
  intro a0 a1 k
  have ih0 := corporalaw05_equal.mono_l k
  unfold corporalaw05_equal.f
  repeat' first
      | (with_reducible exact ih0 _ _ _ _)
      | (with_reducible exact LeO.refl _)
      | (with_reducible exact LeO.none _)
      | (with_reducible refine LeO.ite ?_ ?_)
      | (with_reducible refine LeO.bind ?_ (fun _ => ?_))
      | exact ih0 _ _ _ _
      | exact LeO.none _
      | refine LeO.ite ?_ ?_
      | refine LeO.bind ?_ (fun _ => ?_)
set_option maxHeartbeats 8000000 in
set_option maxRecDepth 100000 in
theorem corporalaw05_equal.calls (k : Nat) (A0 : Option Addr) (c0 : Nat) (l0 : List ByteArray) (A1 : Option Addr) (c1 : Nat) (l1 : List ByteArray) (r : Bool) (w : World) (hr0 : Kd.C Kd.string w A0 l0.length l0) (hc0 : l0.length ≤ c0) (hr1 : Kd.C Kd.string w A1 l1.length l1) (hc1 : l1.length ≤ c1) (h : corporalaw05_equal.f k l0 l1 = some r) :
    Calls Try.prog 14 #[.slice A0 l0.length c0, .slice A1 l1.length c1] w fun e w' => e = .returned (.bool r) ∧ Drawn0 w w' := by
  have HR0 := Aside0.mk hr0
  have HC0 := Aside0.mk hc0
  clear hr0 hc0
  have HR1 := Aside0.mk hr1
  have HC1 := Aside0.mk hc1
  clear hr1 hc1
  have H : (if (l0.length : Int) = (l1.length : Int) then (corporalaw05_equal.l0 k l0 l1 (l0.length : Int) 0) else (some false)) = some r := h
  clear h
  by_cases c3 : (l0.length : Int) = (l1.length : Int)
  · rw [if_pos c3] at H
    have c3b0 : ((l0.length : Int) == (l1.length : Int)) = true := beq_iff_eq.mpr c3
    have c3b1 : ((l0.length : Int) != (l1.length : Int)) = false := bne_eq_false_iff_eq.mpr c3
    have c3b2 : (l0.length == l1.length) = true := by first | simpa using c3 | (simp at c3 ⊢; omega)
    clear c3
    have H' := Aside0.mk H
    clear H
    go_enter Try.func14, Try.ntmps14
    go_wp2
    repeat (go_quiet (fail); try go_wp2)
    go_loopg [13] k (fun kq v13 w' => ∃ (x13_1 : Int), v13 = .int .i64 x13_1 ∧ Aside0 (corporalaw05_equal.l0 kq l0 l1 (l0.length : Int) x13_1 = some r) ∧ Aside0 (kq ≤ k) ∧ Drawn0 w w')
    case atStart => exact ⟨(0), (by first | rfl | (simp; done) | (simp [*]; done)), H', ⟨Nat.le_refl _⟩, by repeat (first | exact Drawn0.refl _ | apply Drawn0.step)⟩
    case round =>
      clear H'
      try clear c1
      try clear p2
      try clear c3
      try clear c3b0
      try clear c3b1
      try clear c3b2
      obtain ⟨x13_1, rfl, HA, HK1, ⟨m1, rfl⟩⟩ := hrel
      cases gk with
      | zero => exact absurd HA.out (by simp [corporalaw05_equal.l0])
      | succ k1 =>
        have H := HA.out
        clear HA
        simp only [corporalaw05_equal.l0] at H
        by_cases c4 : x13_1 < (l0.length : Int)
        · rw [if_pos c4] at H
          have c4b0 : decide (x13_1 < (l0.length : Int)) = true := decide_eq_true c4
          clear c4
          by_cases c5 : 0 ≤ x13_1
          · rw [if_pos c5] at H
            have c5b0 : decide (0 ≤ x13_1) = true := decide_eq_true c5
            clear c5
            by_cases c6 : x13_1 < (l0.length : Int)
            · rw [if_pos c6] at H
              have c6b0 : decide (x13_1 < (l0.length : Int)) = true := decide_eq_true c6
              clear c6
              by_cases c7 : x13_1 < (l1.length : Int)
              · rw [if_pos c7] at H
                have c7b0 : decide (x13_1 < (l1.length : Int)) = true := decide_eq_true c7
                clear c7
                by_cases c8 : (rdOf ByteArray.empty l0 x13_1).toList = (rdOf ByteArray.empty l1 x13_1).toList
                · rw [if_pos c8] at H
                  have c8b0 : ((rdOf ByteArray.empty l0 x13_1).toList == (rdOf ByteArray.empty l1 x13_1).toList) = true := beq_iff_eq.mpr c8
                  have c8b1 : ((rdOf ByteArray.empty l0 x13_1).toList != (rdOf ByteArray.empty l1 x13_1).toList) = false := bne_eq_false_iff_eq.mpr c8
                  clear c8
                  have H' := Aside0.mk H
                  clear H
                  have p127 : 0 ≤ (x13_1 : Int) := of_decide_eq_true (by first | (with_reducible assumption) | assumption)
                  have q127 : x13_1 < (l0.length : Int) := of_decide_eq_true (by first | (with_reducible assumption) | assumption)
                  obtain ⟨ad127, e127, hx127_0⟩ := Kd.at_string HR0.out x13_1 p127 q127
                  cases e127
                  replace p127 := eq_true p127
                  replace q127 := eq_true q127
                  have p128 : 0 ≤ (x13_1 : Int) := of_decide_eq_true (by first | (with_reducible assumption) | assumption)
                  have q128 : x13_1 < (l1.length : Int) := of_decide_eq_true (by first | (with_reducible assumption) | assumption)
                  obtain ⟨ad128, e128, hx128_0⟩ := Kd.at_string HR1.out x13_1 p128 q128
                  cases e128
                  replace p128 := eq_true p128
                  replace q128 := eq_true q128
                  go_wp2
                  repeat (go_quiet (fail); try go_wp2)
                  go_roundg k1
                  case measure => have := HK1.out; omega
                  case rel => exact ⟨(wrap64 (x13_1 + 1)), (by first | rfl | (simp; done) | (simp [*]; done)), H', ⟨by have := HK1.out; omega⟩, by repeat (first | exact Drawn0.refl _ | apply Drawn0.step)⟩
                · rw [if_neg c8] at H
                  have c8b0 : ((rdOf ByteArray.empty l0 x13_1).toList == (rdOf ByteArray.empty l1 x13_1).toList) = false := beq_eq_false_iff_ne.mpr c8
                  have c8b1 : ((rdOf ByteArray.empty l0 x13_1).toList != (rdOf ByteArray.empty l1 x13_1).toList) = true := bne_iff_ne.mpr c8
                  obtain rfl := Option.some.inj H
                  have p127 : 0 ≤ (x13_1 : Int) := of_decide_eq_true (by first | (with_reducible assumption) | assumption)
                  have q127 : x13_1 < (l0.length : Int) := of_decide_eq_true (by first | (with_reducible assumption) | assumption)
                  obtain ⟨ad127, e127, hx127_0⟩ := Kd.at_string HR0.out x13_1 p127 q127
                  cases e127
                  replace p127 := eq_true p127
                  replace q127 := eq_true q127
                  have p128 : 0 ≤ (x13_1 : Int) := of_decide_eq_true (by first | (with_reducible assumption) | assumption)
                  have q128 : x13_1 < (l1.length : Int) := of_decide_eq_true (by first | (with_reducible assumption) | assumption)
                  obtain ⟨ad128, e128, hx128_0⟩ := Kd.at_string HR1.out x13_1 p128 q128
                  cases e128
                  replace p128 := eq_true p128
                  replace q128 := eq_true q128
                  go_wp2
                  repeat (go_quiet (fail); try go_wp2)
                  go_ret
                  exact ⟨by first | rfl | (simp; done) | (simp [*]; done), by repeat (first | exact Drawn0.refl _ | apply Drawn0.step)⟩
              · rw [if_neg c7] at H
                exact absurd H (by simp)
            · rw [if_neg c6] at H
              exact absurd H (by simp)
          · rw [if_neg c5] at H
            exact absurd H (by simp)
        · rw [if_neg c4] at H
          have c4b0 : decide (x13_1 < (l0.length : Int)) = false := decide_eq_false c4
          clear c4
          obtain rfl := Option.some.inj H
          go_wp2
          repeat (go_quiet (fail); try go_wp2)
          go_ret
          exact ⟨by first | rfl | (simp; done) | (simp [*]; done), by repeat (first | exact Drawn0.refl _ | apply Drawn0.step)⟩
  · rw [if_neg c3] at H
    have c3b0 : ((l0.length : Int) == (l1.length : Int)) = false := beq_eq_false_iff_ne.mpr c3
    have c3b1 : ((l0.length : Int) != (l1.length : Int)) = true := bne_iff_ne.mpr c3
    have c3b2 : (l0.length == l1.length) = false := by first | simpa using c3 | (simp at c3 ⊢; omega)
    obtain rfl := Option.some.inj H
    go_enter Try.func14, Try.ntmps14
    go_wp2
    repeat (go_quiet (fail); try go_wp2)
    go_ret
    exact ⟨by first | rfl | (simp; done) | (simp [*]; done), by repeat (first | exact Drawn0.refl _ | apply Drawn0.step)⟩

end Go.Proofs.Ytcgglamgemgeiaa.Q
/- FEvR -/
namespace Go.Proofs.Ytcgglamgemgeiaa.Q
open Go.RowKit Go.Lib Go.Proofs.YtcgglamgemgeiaaW.PrintWords Go.Proofs.YtcgglamgemgeiaaW.PrintLast
/-! ### Parse -/
theorem rparse_l1 (l : List ByteArray) (hl : l.length ≤ 1073741824) : ∀ d i : Nat, 1 ≤ i → i + d = l.length + 1 → Ev (fun k => corporaref05_Parse.l1 k l (i : Int)) (if srt (l.drop (i - 1)) = true then (l, 0) else ([], 6)) := by
  intro d
  induction d with
  | zero =>
    intro i h1 hd
    refine Ev.step (fun k => by rw [corporaref05_Parse.l1]) ?_
    rw [srt_short (by rw [List.length_drop]; omega), if_pos rfl]
    exact ev_neg (by omega) (Ev.now _)
  | succ d ih =>
    intro i h1 hd
    refine Ev.step (fun k => by rw [corporaref05_Parse.l1]) ?_
    by_cases hi : i < l.length
    · refine ev_pos (by omega) ?_
      rw [wrap_dn i h1 (by omega)]
      refine ev_pos (by omega) (ev_pos (by omega) (ev_pos (by omega) ?_))
      rw [rd_nat (show i - 1 < l.length by omega), rd_nat hi, lt_eq]
      have e : l.drop (i - 1) = l[i - 1] :: l[i] :: l.drop (i + 1) := by
        rw [List.drop_eq_getElem_cons (show i - 1 < l.length by omega)]
        have : i - 1 + 1 = i := by omega
        rw [this, List.drop_eq_getElem_cons hi]
      have e2 : l.drop (i + 1 - 1) = l[i] :: l.drop (i + 1) := by rw [Nat.add_sub_cancel, List.drop_eq_getElem_cons hi]
      by_cases hlt : lt l[i - 1] l[i] = true
      · refine ev_pos hlt ?_
        rw [wrap_up i (by omega), e, srt, hlt, Bool.true_and, ← e2]
        exact ih (i + 1) (by omega) (by omega)
      · refine ev_neg hlt ?_
        rw [e, srt]
        have : lt l[i - 1] l[i] = false := by simpa using hlt
        rw [this, Bool.false_and]
        exact Ev.now _
    · obtain rfl : i = l.length := by omega
      rw [srt_short (by rw [List.length_drop]; omega), if_pos rfl]
      exact ev_neg (by omega) (Ev.now _)
theorem rparse_l0 (s : ByteArray) (hs : s.size ≤ 120) : ∀ (d i frm : Nat) (acc : List ByteArray), 1 ≤ frm → frm ≤ i → i + d = s.size → acc.length ≤ i →
    Ev (fun k => corporaref05_Parse.l0 k s (s.size : Int) acc (frm : Int) (i : Int)) (PL acc ((bl s).drop i) (((bl s).drop frm).take (i - frm))) := by
  intro d
  induction d with
  | zero =>
    intro i frm acc h0 h1 hd ha
    refine Ev.step (fun k => by rw [corporaref05_Parse.l0]) ?_
    refine ev_neg (by omega) ?_
    have : (bl s).drop i = [] := List.drop_eq_nil_of_le (by rw [bl_length]; omega)
    rw [this]
    have := rparse_l1 acc (by omega) acc.length 1 (by omega) (by omega)
    unfold PL spl SR
    simpa using this
  | succ d ih =>
    intro i frm acc h0 h1 hd ha
    have hi : i < (bl s).length := by rw [bl_length]; omega
    refine Ev.step (fun k => by rw [corporaref05_Parse.l0]) ?_
    refine ev_pos (by omega) (ev_pos (by omega) (ev_pos (by omega) ?_))
    rw [List.drop_eq_getElem_cons hi]
    by_cases hb : (bl s)[i] = 124
    · refine ev_pos ((bt_124 hi).2 hb) ?_
      by_cases he : i = frm
      · refine ev_pos (by omega) ?_
        subst he
        unfold PL
        rw [Nat.sub_self, List.take_zero, spl, if_pos hb, if_pos rfl]
        exact Ev.now _
      · refine ev_neg (by omega) (ev_pos (by omega) (ev_pos (by omega) (ev_pos (by omega) (ev_pos (by omega) ?_))))
        rw [wrap_up i (by omega), Int.toNat_natCast, Int.toNat_natCast]
        refine ev_eq (ih (i + 1) (i + 1) _ (by omega) (by omega) (by omega) (by rw [List.length_append, List.length_singleton]; omega)) ?_
        unfold PL
        rw [Nat.sub_self, List.take_zero, spl, if_pos hb]
        have hne : ((bl s).drop frm).take (i - frm) ≠ [] := by
          intro h
          have := congrArg List.length h
          rw [List.length_take, List.length_drop, bl_length] at this
          simp at this; omega
        rw [if_neg hne]
        cases hsp : spl ((bl s).drop (i + 1)) [] with
        | none => rfl
        | some m =>
          have : s.extract frm i = mkB (((bl s).drop frm).take (i - frm)) := bl_inj (by rw [bl_mkB, bl_extract])
          simp [this]
    · refine ev_neg (fun h => hb ((bt_124 hi).1 h)) ?_
      rw [wrap_up i (by omega)]
      refine ev_eq (ih (i + 1) frm _ h0 (by omega) (by omega) (by omega)) ?_
      unfold PL
      rw [spl, if_neg hb]
      have : ((bl s).drop frm).take (i + 1 - frm) = ((bl s).drop frm).take (i - frm) ++ [(bl s)[i]] := by
        have e1 : i + 1 - frm = (i - frm) + 1 := by omega
        have : frm + (i - frm) = i := by omega
        rw [e1, List.take_add_one, List.getElem?_drop, this, List.getElem?_eq_getElem hi]
        rfl
      rw [this]
theorem rparse_ev (s : ByteArray) : Ev (fun k => corporaref05_Parse.f k s) (PR s) := by
  unfold corporaref05_Parse.f corporaref04_ValidValue.f
  refine ev_some ?_
  by_cases h0 : vv s = 0
  · refine ev_pos h0 ?_
    have hz := (vv_zero.1 h0).1
    have hpr : PR s = if (bl s).head? ≠ some 124 ∨ (bl s).getLast? ≠ some 124 then ([], 3) else PL [] (bl s).tail [] := by
      unfold PR PL SR
      rw [if_neg (by simp [h0])]
      first
        | (simp only [List.nil_append]; done)
        | (simp only [List.nil_append]; rfl)
    have three : ∀ {r : List ByteArray × Int}, r = ([], 3) → Ev (fun k => corporaref05_Parse.j0 k s (s.size : Int) true) r := fun h => Ev.step (fun k => by rw [corporaref05_Parse.j0]) (ev_pos rfl (ev_now h.symm))
    rw [hpr]
    have hl := bl_length s
    by_cases h2 : (s.size : Int) = 0
    · refine ev_pos h2 (three (if_pos (.inl ?_)))
      have : bl s = [] := List.eq_nil_of_length_eq_zero (by omega)
      rw [this]; simp
    · refine ev_neg h2 (ev_pos (by omega) ?_)
      have k0 : 0 < (bl s).length := by omega
      have k1 : s.size - 1 < (bl s).length := by omega
      have e0 : (bl s).head? = some (bl s)[0] := by rw [List.head?_eq_getElem?, List.getElem?_eq_getElem k0]
      have e1 : (bl s).getLast? = some (bl s)[s.size - 1] := by rw [List.getLast?_eq_getElem?, hl, List.getElem?_eq_getElem k1]
      rw [e0, e1, show ((s.size : Int) - 1) = ((s.size : Nat) : Int) - 1 from rfl, wrap_dn s.size (by omega) (by omega)]
      by_cases h3 : (bl s)[0] = 124
      · refine ev_pos ((bt_124 k0).2 h3) (ev_pos (by omega) (ev_pos (by omega) ?_))
        by_cases h4 : (bl s)[s.size - 1] = 124
        · have hb : (bt s ((s.size - 1 : Nat) : Int) != 124) = false := by rw [bne_eq_false_iff_eq]; exact (bt_124 k1).2 h4
          rw [hb, if_neg (by simp [h3, h4])]
          refine Ev.step (fun k => by rw [corporaref05_Parse.j0]) (ev_neg (by simp) ?_)
          have := rparse_l0 s hz (s.size - 1) 1 1 [] (by omega) (by omega) (by omega) (by simp)
          rw [Nat.sub_self, List.take_zero, List.drop_one] at this
          exact this
        · have hb : (bt s ((s.size - 1 : Nat) : Int) != 124) = true := by rw [bne_iff_ne]; exact fun h => h4 ((bt_124 k1).1 h)
          rw [hb]
          exact three (if_pos (.inr (by simp [h4])))
      · exact ev_neg (fun h => h3 ((bt_124 k0).1 h)) (three (if_pos (.inl (by simp [h3]))))
  · refine ev_neg h0 (ev_now ?_)
    unfold PR; rw [if_pos h0]
/-! ### member, text, In, Format -/
theorem member_loop (l : List ByteArray) (f : ByteArray) (hl : l.length ≤ 1073741824) : ∀ d i : Nat, i + d = l.length → Ev (fun k => corporaref05_member.l0 k f l (l.length : Int) (i : Int)) (memb (l.drop i) f) := by
  intro d
  induction d with
  | zero =>
    intro i hd
    refine Ev.step (fun k => by rw [corporaref05_member.l0]) ?_
    rw [List.drop_eq_nil_of_le (by omega)]
    exact ev_neg (by omega) (Ev.now _)
  | succ d ih =>
    intro i hd
    have hi : i < l.length := by omega
    refine Ev.step (fun k => by rw [corporaref05_member.l0]) ?_
    refine ev_pos (by omega) (ev_pos (by omega) (ev_pos (by omega) ?_))
    rw [rd_nat hi, List.drop_eq_getElem_cons hi]
    by_cases he : l[i] = f
    · refine ev_pos (toList_eq_iff.2 he) (ev_now ?_)
      unfold memb; rw [List.any_cons, decide_eq_true he, Bool.true_or]
    · refine ev_neg (fun h => he (toList_eq_iff.1 h)) ?_
      rw [wrap_up i (by omega)]
      refine ev_eq (ih (i + 1) (by omega)) ?_
      unfold memb; rw [List.any_cons, decide_eq_false he, Bool.false_or]
theorem member_ev (l : List ByteArray) (f : ByteArray) (hl : l.length ≤ 1073741824) : Ev (fun k => corporaref05_member.f k l f) (memb l f) := member_loop l f hl l.length 0 (by omega)
theorem text_loop (l : List ByteArray) (hl : l.length ≤ 1073741824) (hsz : ∀ g ∈ l, g.size ≤ 120) : ∀ (d i : Nat) (out : ByteArray), i + d = l.length → out.size ≤ 1 + 121 * i →
    Ev (fun k => corporaref05_text.l0 k out l (l.length : Int) (i : Int)) (mkB (bl out ++ tailT (l.drop i))) := by
  intro d
  induction d with
  | zero =>
    intro i out hd ho
    refine Ev.step (fun k => by rw [corporaref05_text.l0]) (ev_neg (by omega) (ev_now ?_))
    rw [List.drop_eq_nil_of_le (by omega), tailT, List.append_nil, mkB_bl]
  | succ d ih =>
    intro i out hd ho
    have hi : i < l.length := by omega
    have hg := hsz l[i] (List.getElem_mem hi)
    refine Ev.step (fun k => by rw [corporaref05_text.l0]) (ev_pos (by omega) (ev_pos (by omega) (ev_pos (by omega) ?_)))
    rw [rd_nat hi]
    have s1 : (l[i] ++ (⟨#[124]⟩ : ByteArray)).size = l[i].size + 1 := by rw [ByteArray.size_append]; rfl
    have s2 : (out ++ (l[i] ++ (⟨#[124]⟩ : ByteArray))).size = out.size + (l[i].size + 1) := by rw [ByteArray.size_append, s1]
    rw [s1]
    refine ev_pos (by omega) (ev_pos (by omega) ?_)
    have ht : tailT (l.drop i) = bl l[i] ++ 124 :: tailT (l.drop (i + 1)) := by rw [List.drop_eq_getElem_cons hi, tailT]
    rw [wrap_up i (by omega)]
    refine ev_eq (ih (i + 1) _ (by omega) (by rw [s2]; omega)) ?_
    have e2 : bl (out ++ (l[i] ++ (⟨#[124]⟩ : ByteArray))) ++ tailT (l.drop (i + 1)) = bl out ++ tailT (l.drop i) := by
      rw [bl_append, bl_append, ht]
      show bl out ++ (bl l[i] ++ [124]) ++ _ = _
      simp
    rw [e2]
theorem text_ev (l : List ByteArray) (hl : l.length ≤ 1073741824) (hsz : ∀ g ∈ l, g.size ≤ 120) : Ev (fun k => corporaref05_text.f k l) (text l) :=
  ev_eq (text_loop l hl hsz l.length 0 (⟨#[124]⟩ : ByteArray) (by omega) (by decide)) rfl
theorem in_loop (b : List Int) (c : Int) (hb : b.length ≤ 1073741824) : ∀ d i : Nat, i + d = b.length → Ev (fun k => corporaref05_In.l0 k c b (b.length : Int) (i : Int)) ((b.drop i).any (fun x => decide (x = c))) := by
  intro d
  induction d with
  | zero =>
    intro i hd
    refine Ev.step (fun k => by rw [corporaref05_In.l0]) ?_
    rw [List.drop_eq_nil_of_le (by omega)]
    exact ev_neg (by omega) (Ev.now _)
  | succ d ih =>
    intro i hd
    have hi : i < b.length := by omega
    have hr : rd b (i : Int) = b[i] := by unfold rd; rw [Int.toNat_natCast, List.getD_eq_getElem?_getD, List.getElem?_eq_getElem hi]; rfl
    refine Ev.step (fun k => by rw [corporaref05_In.l0]) ?_
    refine ev_pos (by omega) (ev_pos (by omega) (ev_pos (by omega) ?_))
    rw [hr, List.drop_eq_getElem_cons hi, List.any_cons]
    by_cases he : b[i] = c
    · refine ev_pos he (ev_now ?_)
      rw [decide_eq_true he, Bool.true_or]
    · refine ev_neg he ?_
      rw [wrap_up i (by omega), decide_eq_false he, Bool.false_or]
      exact ih (i + 1) (by omega)
theorem in_ev (f : ByteArray) (hf : f.size ≤ 120) : Ev (fun k => inF_ k f 124) (decide ((124 : UInt8) ∈ bl f)) := by
  unfold inF_
  refine ev_pos (by omega) ?_
  refine ev_eq (in_loop (bytesOf f) 124 (by rw [bytesOf_length]; omega) (bytesOf f).length 0 (by omega)) ?_
  rw [List.drop_zero, Bool.eq_iff_iff, List.any_eq_true, decide_eq_true_iff]
  unfold bytesOf bl
  constructor
  · rintro ⟨x, hx, h⟩
    obtain ⟨b, hb, rfl⟩ := List.mem_map.1 hx
    have h1 := of_decide_eq_true h
    have : b = 124 := UInt8.toNat_inj.1 (by rw [show (124 : UInt8).toNat = 124 from rfl]; omega)
    rw [← this]; exact hb
  · intro h
    exact ⟨124, List.mem_map.2 ⟨124, h, rfl⟩, by decide⟩
theorem rformat_l0 (m : List ByteArray) (hm : m.length ≤ 1073741824) : ∀ (d i : Nat) (acc : List ByteArray), i + d = m.length → acc.length ≤ i → (∀ g ∈ acc, g.size ≤ 120) →
    Ev (fun k => corporaref05_Format.l0 k acc m (m.length : Int) (i : Int)) (FMof (fmGo (m.drop i) acc)) := by
  intro d
  induction d with
  | zero =>
    intro i acc hd ha hz
    refine Ev.step (fun k => by rw [corporaref05_Format.l0]) (ev_neg (by omega) ?_)
    rw [List.drop_eq_nil_of_le (by omega), fmGo]
    refine Ev.bind (text_ev acc (by omega) hz) ?_
    unfold FMof
    simp only [ne_eq, not_true_eq_false, if_false]
    by_cases h : 120 < (text acc).size
    · rw [if_pos h]; exact ev_pos (by omega) (Ev.now _)
    · rw [if_neg h]; exact ev_neg (by omega) (Ev.now _)
  | succ d ih =>
    intro i acc hd ha hz
    have hi : i < m.length := by omega
    refine Ev.step (fun k => by rw [corporaref05_Format.l0]) (ev_pos (by omega) (ev_pos (by omega) (ev_pos (by omega) ?_)))
    rw [rd_nat hi, List.drop_eq_getElem_cons hi, fmGo]
    unfold corporaref04_ValidValue.f
    refine ev_some ?_
    by_cases h0 : vv m[i] = 0
    · refine ev_pos h0 ?_
      rw [if_neg (by simp [h0]), toList_bl]
      by_cases h1 : bl m[i] = []
      · refine ev_pos h1 (ev_now ?_)
        rw [if_pos (.inl h1)]; rfl
      · refine ev_neg h1 ?_
        refine Ev.bind (in_ev m[i] (vv_zero.1 h0).1) ?_
        by_cases h2 : (124 : UInt8) ∈ bl m[i]
        · refine ev_pos (by simp [h2]) (ev_now ?_)
          rw [if_pos (.inr h2)]; rfl
        · refine ev_neg (by simp [h2]) ?_
          rw [if_neg (by simp [h1, h2])]
          have hins : Ev (fun k => corporaref05_insert.f k acc m[i]) (insB acc m[i]) := by
            unfold corporaref05_insert.f
            exact ev_pos (by omega) (Ev.now _)
          refine Ev.bind hins ?_
          rw [wrap_up i (by omega)]
          exact ih (i + 1) _ (by omega) (by have := insB_length acc m[i]; omega) (insB_small hz (vv_zero.1 h0).1)
    · refine ev_neg h0 (ev_now ?_)
      rw [if_pos h0]
      unfold FMof
      rw [if_pos h0]
theorem rformat_ev (m : List ByteArray) (hm : m.length ≤ 1073741824) : Ev (fun k => corporaref05_Format.f k m) (FM m) :=
  rformat_l0 m hm m.length 0 [] (by omega) (by simp) (by simp)
/-! ### the operations -/
theorem rhas_ev (s f : ByteArray) : Ev (fun k => corporaref05_Has.f k s f) (HS s f) := by
  unfold corporaref05_Has.f HS
  refine Ev.bind (rparse_ev s) ?_
  by_cases h : (PR s).2 = 0
  · refine ev_pos h (Ev.bind (member_ev _ f (by have := PR_len s; omega)) (ev_now ?_))
    simp [h]
  · refine ev_neg h (ev_now ?_)
    simp [h]
theorem runion_ev (a b : ByteArray) : Ev (fun k => corporaref05_Union.f k a b) (UN a b) := by
  unfold corporaref05_Union.f UN
  refine Ev.bind (rparse_ev a) ?_
  have l1 := PR_len a
  have l2 := PR_len b
  by_cases h1 : (PR a).2 = 0
  · refine ev_pos h1 (Ev.bind (rparse_ev b) ?_)
    rw [if_neg (by simp [h1])]
    by_cases h2 : (PR b).2 = 0
    · rw [if_neg (by simp [h2])]
      refine ev_pos h2 (ev_pos (show ([] : List ByteArray).length + (PR a).1.length < 8796093022208 by simp only [List.length_nil]; omega) (ev_some ?_))
      rw [List.nil_append]
      refine ev_pos (show (PR a).1.length + (PR b).1.length < 8796093022208 by omega) ?_
      exact Ev.bind (rformat_ev ((PR a).1 ++ (PR b).1) (by rw [List.length_append]; omega)) (ev_now rfl)
    · refine ev_neg h2 (ev_now ?_)
      rw [if_pos h2]
  · refine ev_neg h1 (ev_now ?_)
    rw [if_pos h1]
theorem rintersect_loop (x y : List ByteArray) (hx : x.length ≤ 120) (hy : y.length ≤ 120) (hz : ∀ f ∈ x, f.size ≤ 120) : ∀ (d i : Nat) (acc : List ByteArray), i + d = x.length → acc.length ≤ i → (∀ f ∈ acc, f.size ≤ 120) →
    Ev (fun k => corporaref05_Intersect.l0 k y acc x (x.length : Int) (i : Int)) (text (acc ++ (x.drop i).filter (memb y)), 0) := by
  intro d
  induction d with
  | zero =>
    intro i acc hd ha hs
    refine Ev.step (fun k => by rw [corporaref05_Intersect.l0]) (ev_neg (by omega) ?_)
    rw [List.drop_eq_nil_of_le (by omega), List.filter_nil, List.append_nil]
    exact Ev.bind (text_ev acc (by omega) hs) (ev_now rfl)
  | succ d ih =>
    intro i acc hd ha hs
    have hi : i < x.length := by omega
    refine Ev.step (fun k => by rw [corporaref05_Intersect.l0]) (ev_pos (by omega) (ev_pos (by omega) (ev_pos (by omega) ?_)))
    rw [rd_nat hi]
    refine Ev.bind (member_ev y x[i] (by omega)) ?_
    have hdr : x.drop i = x[i] :: x.drop (i + 1) := List.drop_eq_getElem_cons hi
    rw [wrap_up i (by omega)]
    cases hm : memb y x[i] with
    | true =>
      refine ev_pos rfl (ev_pos (by omega) ?_)
      refine ev_eq (ih (i + 1) _ (by omega) (by rw [List.length_append, List.length_singleton]; omega) (fun f hf => ?_)) ?_
      · rcases List.mem_append.1 hf with hf | hf
        · exact hs f hf
        · rw [List.mem_singleton.1 hf]; exact hz _ (List.getElem_mem hi)
      · rw [hdr, List.filter_cons, hm, if_pos rfl, List.append_assoc]; rfl
    | false =>
      refine ev_neg (by simp) ?_
      refine ev_eq (ih (i + 1) _ (by omega) (by omega) hs) ?_
      rw [hdr, List.filter_cons, hm, if_neg (by simp)]
theorem rintersect_ev (a b : ByteArray) : Ev (fun k => corporaref05_Intersect.f k a b) (IS a b) := by
  unfold corporaref05_Intersect.f IS
  refine Ev.bind (rparse_ev a) ?_
  by_cases h1 : (PR a).2 = 0
  · refine ev_pos h1 (Ev.bind (rparse_ev b) ?_)
    rw [if_neg (by simp [h1])]
    by_cases h2 : (PR b).2 = 0
    · rw [if_neg (by simp [h2])]
      refine ev_pos h2 ?_
      have hf := (PR_ok (PR_eta h1)).2.2.1
      refine ev_eq (rintersect_loop (PR a).1 (PR b).1 (PR_len a) (PR_len b) (fun f hf' => (vv_zero.1 (hf f hf').1).1) (PR a).1.length 0 [] (by omega) (by simp) (by simp)) ?_
      rw [List.drop_zero, List.nil_append]
    · refine ev_neg h2 (ev_now ?_)
      rw [if_pos h2]
  · refine ev_neg h1 (ev_now ?_)
    rw [if_pos h1]
theorem rsubset_loop (x y : List ByteArray) (hx : x.length ≤ 120) (hy : y.length ≤ 120) : ∀ (d i : Nat), i + d = x.length →
    Ev (fun k => corporaref05_Subset.l0 k y x (x.length : Int) (i : Int)) ((x.drop i).all (memb y), 0) := by
  intro d
  induction d with
  | zero =>
    intro i hd
    refine Ev.step (fun k => by rw [corporaref05_Subset.l0]) (ev_neg (by omega) ?_)
    rw [List.drop_eq_nil_of_le (by omega)]
    exact Ev.now _
  | succ d ih =>
    intro i hd
    have hi : i < x.length := by omega
    refine Ev.step (fun k => by rw [corporaref05_Subset.l0]) (ev_pos (by omega) (ev_pos (by omega) (ev_pos (by omega) ?_)))
    rw [rd_nat hi]
    refine Ev.bind (member_ev y x[i] (by omega)) ?_
    have hdr : x.drop i = x[i] :: x.drop (i + 1) := List.drop_eq_getElem_cons hi
    rw [wrap_up i (by omega)]
    cases hm : memb y x[i] with
    | true =>
      refine ev_pos rfl ?_
      refine ev_eq (ih (i + 1) (by omega)) ?_
      rw [hdr, List.all_cons, hm, Bool.true_and]
    | false =>
      refine ev_neg (by simp) (ev_now ?_)
      rw [hdr, List.all_cons, hm, Bool.false_and]
theorem rsubset_ev (a b : ByteArray) : Ev (fun k => corporaref05_Subset.f k a b) (SB a b) := by
  unfold corporaref05_Subset.f SB
  refine Ev.bind (rparse_ev a) ?_
  by_cases h1 : (PR a).2 = 0
  · refine ev_pos h1 (Ev.bind (rparse_ev b) ?_)
    rw [if_neg (by simp [h1])]
    by_cases h2 : (PR b).2 = 0
    · rw [if_neg (by simp [h2])]
      exact ev_pos h2 (rsubset_loop (PR a).1 (PR b).1 (PR_len a) (PR_len b) (PR a).1.length 0 (by omega))
    · refine ev_neg h2 (ev_now ?_)
      rw [if_pos h2]
  · refine ev_neg h1 (ev_now ?_)
    rw [if_pos h1]
/-! ### the law's own words -/
theorem equal_loop (a b : List ByteArray) (ha : a.length ≤ 1073741824) (hab : a.length = b.length) : ∀ d i : Nat, i + d = a.length → Ev (fun k => corporalaw05_equal.l0 k a b (a.length : Int) (i : Int)) (decide (a.drop i = b.drop i)) := by
  intro d
  induction d with
  | zero =>
    intro i hd
    refine Ev.step (fun k => by rw [corporalaw05_equal.l0]) (ev_neg (by omega) (ev_now ?_))
    rw [List.drop_eq_nil_of_le (by omega), List.drop_eq_nil_of_le (by omega)]; simp
  | succ d ih =>
    intro i hd
    have hi : i < a.length := by omega
    have hi' : i < b.length := by omega
    refine Ev.step (fun k => by rw [corporalaw05_equal.l0]) (ev_pos (by omega) (ev_pos (by omega) (ev_pos (by omega) (ev_pos (by omega) ?_))))
    rw [rd_nat hi, rd_nat hi', List.drop_eq_getElem_cons hi, List.drop_eq_getElem_cons hi']
    by_cases he : a[i] = b[i]
    · refine ev_pos (toList_eq_iff.2 he) ?_
      rw [wrap_up i (by omega)]
      refine ev_eq (ih (i + 1) (by omega)) ?_
      rw [decide_eq_decide, List.cons.injEq]
      exact ⟨fun h => ⟨he, h⟩, fun h => h.2⟩
    · refine ev_neg (fun h => he (toList_eq_iff.1 h)) (ev_now ?_)
      symm
      rw [decide_eq_false_iff_not, List.cons.injEq]
      exact fun h => he h.1
theorem equal_same (a : List ByteArray) (ha : a.length ≤ 1073741824) : Ev (fun k => corporalaw05_equal.f k a a) true := by
  unfold corporalaw05_equal.f
  exact ev_pos rfl (ev_eq (equal_loop a a ha rfl a.length 0 (by omega)) (by simp))
/-- Whether strings are longer than the laws examine. -/
def lng (l : List ByteArray) : Bool := l.any (fun s => decide (300 < s.size)) || decide (40 < l.length)
theorem long_loop (l : List ByteArray) (hl : l.length ≤ 9223372036854775807) : ∀ d i : Nat, i + d = l.length → Ev (fun k => corporalaw05_long.l0 k l l (l.length : Int) (i : Int)) ((l.drop i).any (fun s => decide (300 < s.size)) || decide (40 < l.length)) := by
  intro d
  induction d with
  | zero =>
    intro i hd
    refine Ev.step (fun k => by rw [corporalaw05_long.l0]) (ev_neg (by omega) (ev_now ?_))
    rw [List.drop_eq_nil_of_le (by omega), List.any_nil, Bool.false_or, decide_eq_decide]; omega
  | succ d ih =>
    intro i hd
    have hi : i < l.length := by omega
    refine Ev.step (fun k => by rw [corporalaw05_long.l0]) (ev_pos (by omega) (ev_pos (by omega) (ev_pos (by omega) ?_)))
    have hw : wrap64 ((i : Int) + 1) = ((i + 1 : Nat) : Int) := by unfold wrap64; omega
    rw [rd_nat hi, List.drop_eq_getElem_cons hi, List.any_cons, hw]
    by_cases h : 300 < l[i].size
    · refine ev_pos (by omega) (ev_now ?_)
      rw [decide_eq_true h]; rfl
    · refine ev_neg (by omega) ?_
      rw [decide_eq_false h, Bool.false_or]
      exact ih (i + 1) (by omega)
theorem long_ev (l : List ByteArray) (hl : l.length ≤ 9223372036854775807) : Ev (fun k => corporalaw05_long.f k l) (lng l) := long_loop l hl l.length 0 (by omega)
end Go.Proofs.Ytcgglamgemgeiaa.Q
/- PureFeatureCombines -/
namespace Go.Proofs.Ytcgglamgemgeiaa.Pure
open Go.RowKit Go.Lib Go.Proofs.Ytcgglamgemgeiaa.Q Go.Proofs.YtcgglamgemgeiaaW.PrintWords Go.Proofs.YtcgglamgemgeiaaW.PrintLast
theorem FeatureCombines : corporalaw05_FeatureCombines.Pure := by
  intro a b _ _
  refine Ev.rounds (g := fun k => corporalaw05_FeatureCombines.f k a b) ?_
  unfold corporalaw05_FeatureCombines.f
  refine Ev.bind (long_ev [a, b] (by simp)) ?_
  cases lng [a, b] with
  | true => exact ev_pos rfl (Ev.now _)
  | false =>
    refine ev_neg (by simp) (Ev.bind (union_ev a b) (Ev.bind (runion_ev a b) (Ev.bind (intersect_ev a b) (Ev.bind (rintersect_ev a b) (Ev.bind (subset_ev a b) (Ev.bind (rsubset_ev a b) ?_))))))
    exact ev_pos rfl (ev_pos rfl (ev_pos rfl (ev_pos rfl (ev_pos (by simp) (ev_pos rfl (Ev.bind awake_ev (ev_now rfl)))))))
end Go.Proofs.Ytcgglamgemgeiaa.Pure
/- LawFeatureCombines -/
namespace Go.Proofs.Ytcgglamgemgeiaa.featureCombines
open Go.ChangeShapes Go.WideShapes Go.ChangeAt Go.RowKit
open Go.ChangeMaps (open_string shut_string)
set_option linter.unusedVariables false
theorem own : ownKnob Try.prog.godebug = none := by kernel_rfl
set_option maxRecDepth 100000 in
theorem lifted (os : Os) (started : os.Started) (H : Type) (enc : TypeId × Value → H) :
    ReturnsInHanded {} Try.checked os 9 .any (Rows.featureCombinesSpec.pre6 enc Try.prog Try.f9 Rows.featureCombinesRow.domain false) (Rows.featureCombinesSpec.post enc Try.prog Try.f9 false true false false) := by
  refine returnsInHanded_of_change_sized (C := Try.checked) own started (by kernel_rfl) Try.func9
    (ChangeSpec.witness6 (enc := enc) (C := Try.checked) false ⟨#[], #[.string ByteArray.empty, .string ByteArray.empty], []⟩ 8 (by kernel_rfl) (by kernel_rfl) (by kernel_rfl) (by kernel_rfl)) ?_
  intro W base args ds gs before hval0 hW hcnd hsz0 _
  have hsz : (DataW.weightsEach Try.prog (Try.f9.params.toList ++ Rows.featureCombinesSpec.plain.varTypes Try.prog) (ds ++ gs)).all (· ≤ reachBytes) = true := hsz0
  have hval : ∀ (j : Nat) t v, Try.f9.params[j]? = some t → args[j]? = some v → Value.okWide Try.prog W .any base t v := hval0
  have hW' := hW
  obtain ⟨p, q, hA0, hV, rfl, hfz, hnd⟩ := hW
  have hA : DataW.TrodAll enc Try.prog W 0 (fun _ => true) true Try.f9.params.toList args.toList ds p := hA0
  rw [Try.params9] at hA hval hsz
  obtain ⟨v0, vs0, d0, ds0, p0, q0, hargs, rfl, rfl, h0, r0⟩ := trodAll_cons hA
  obtain ⟨v1, vs1, d1, ds1, p1, q1, rfl, rfl, rfl, h1, r1⟩ := trodAll_cons r0
  obtain ⟨rfl, rfl, rfl⟩ := trodAll_nil r1
  obtain rfl : args = #[v0, v1] := by cases args; simp_all
  obtain ⟨rfl, rfl⟩ := trodVars_none hV
  obtain ⟨a0, rfl, rfl, rfl, y0⟩ := open_string Try.underlying9 (hval 0 9 v0 rfl rfl) h0
  have w0 : a0.size ≤ 140737488351232 := by
    have z := sized_string hsz (j := 0) (t := 9) rfl rfl
    rw [Array.length_toList] at z
    exact z
  obtain ⟨a1, rfl, rfl, rfl, y1⟩ := open_string Try.underlying9 (hval 1 9 v1 rfl rfl) h1
  have w1 : a1.size ≤ 140737488351232 := by
    have z := sized_string hsz (j := 1) (t := 9) rfl rfl
    rw [Array.length_toList] at z
    exact z
  clear hA0 hval0 hsz0 hsz
  refine (Q.corporalaw05_FeatureCombines.walk Pure.FeatureCombines a0 a1 W w0 w1).mono fun e W' ⟨he, bel⟩ => ?_
  subst he
  exact ⟨_, rfl, _, _, _, [], _, [], hW', trodAll_mk1 (shut_bool Try.underlying4 _), (trodAll_cons_mk (shut_string Try.underlying9 y0) (trodAll_cons_mk (shut_string Try.underlying9 y1) trodAll_mk0)), rfl, bel.frame _, fun h => by cases h⟩
theorem over : Rows.featureCombinesRow.holds Try.pinned (OpenSpec.ofChange Rows.featureCombinesSpec) :=
  OpenClaim.holds_of_wide 9 Try.f9 rfl rfl rfl rfl rfl rfl rfl ⟨rfl, rfl, rfl, rfl, rfl⟩ rfl rfl rfl rfl rfl (by kernel_rfl) Try.func9 (by kernel_rfl)
    (of_decide_eq_true (by kernel_rfl)) (by unfold Func.isWrapper; first | (rw [if_pos (by decide +kernel)]; kernel_rfl) | (rw [if_neg (by decide +kernel)]; exact ⟨rfl, rfl⟩))
    (fun os started H enc _ => lifted os started H enc)
theorem proved : Rows.FeatureCombinesSaid := over
end Go.Proofs.Ytcgglamgemgeiaa.featureCombines
namespace Go.Proofs.Ytcgglamgemgeiaa
/-- The row, under a short name, for the claim. -/
theorem featureCombines_holds : Rows.FeatureCombinesSaid := featureCombines.proved
end Go.Proofs.Ytcgglamgemgeiaa
