/- The law FeatureFormats holds of every list of strings: feature.Format and the reference's Format give the same text, or the same error; no condition. (Part 2.) -/
import Derived.Laws.Cover1
import Derived.Test.YtcgglamgemgeiaaMFmt1
import Derived.LoopTactic
import Derived.Lib.Bytealg
set_option linter.unusedVariables false
set_option linter.unusedSimpArgs false
set_option linter.unusedSectionVars false
/- FCorporaref01Units -/
namespace Go.Proofs.Ytcgglamgemgeiaa.Q
open Go.RowKit Go.Proofs.YtcgglamgemgeiaaW.PrintWords Go.Proofs.YtcgglamgemgeiaaW.PrintLast Go.Proofs.YtcgglamgemgeiaaW.PrintMore
attribute [local go_sem] max2_int min2_int max_two min_two max_three min_three max_four min_four   -- for this text's walks alone
set_option linter.unusedVariables false
set_option linter.unusedSimpArgs false

/-! ### corporaref01_Units: function 41 -/
mutual
def corporaref01_Units.l0 : Nat → ByteArray → List (S56) → Int → Int → Option ((List (S56)))
  | 0, _, _, _, _ => none
  | k + 1, x0, x3, x8, x82 => if x8 < x82 then (if (x3.length : Int) > 0 then (if 0 ≤ (wrap64 ((x3.length : Int) - 1)) then (if (wrap64 ((x3.length : Int) - 1)) < (x3.length : Int) then ((some (x3.set ((wrap64 ((x3.length : Int) - 1)) : Int).toNat (⟨(rd_T56 x3 (wrap64 ((x3.length : Int) - 1))).f0, (rd_T56 x3 (wrap64 ((x3.length : Int) - 1))).f1, wrap64 (x8 - ((rd_T56 x3 (wrap64 ((x3.length : Int) - 1))).f1)), (rd_T56 x3 (wrap64 ((x3.length : Int) - 1))).f3⟩ : S56) : List (S56))).bind fun y116 => (if y116.length < 4398046511104 then (corporaref01_Units.l0 k x0 (y116 ++ [(⟨rn_ x0 x8, x8, 0, false⟩ : S56)]) (x8 + wd_ x0 x8) x82) else (none))) else (none)) else (none)) else (if x3.length < 4398046511104 then (corporaref01_Units.l0 k x0 (x3 ++ [(⟨rn_ x0 x8, x8, 0, false⟩ : S56)]) (x8 + wd_ x0 x8) x82) else (none))) else (if (x3.length : Int) > 0 then (if 0 ≤ (wrap64 ((x3.length : Int) - 1)) then (if (wrap64 ((x3.length : Int) - 1)) < (x3.length : Int) then (corporaref01_Units.j1 k (x3.set ((wrap64 ((x3.length : Int) - 1)) : Int).toNat (⟨(rd_T56 x3 (wrap64 ((x3.length : Int) - 1))).f0, (rd_T56 x3 (wrap64 ((x3.length : Int) - 1))).f1, wrap64 ((x0.size : Int) - ((rd_T56 x3 (wrap64 ((x3.length : Int) - 1))).f1)), (rd_T56 x3 (wrap64 ((x3.length : Int) - 1))).f3⟩ : S56))) else (none)) else (none)) else (corporaref01_Units.j1 k x3))
def corporaref01_Units.j1 : Nat → List (S56) → Option ((List (S56)))
  | 0, _ => none
  | k + 1, x3 => corporaref01_Units.l1 k x3 (x3.length : Int) 0
def corporaref01_Units.l1 : Nat → List (S56) → Int → Int → Option ((List (S56)))
  | 0, _, _, _ => none
  | k + 1, x3, x57, x58 => if x58 < x57 then (if 0 ≤ x58 then (if x58 < (x3.length : Int) then (if ((rd_T56 x3 x58).f0) = 65533 then (corporaref01_Units.l1 k (x3.set (x58 : Int).toNat (⟨(rd_T56 x3 x58).f0, (rd_T56 x3 x58).f1, (rd_T56 x3 x58).f2, (((rd_T56 x3 x58).f2) == 3)⟩ : S56)) x57 (wrap64 (x58 + 1))) else (corporaref01_Units.l1 k (x3.set (x58 : Int).toNat (⟨(rd_T56 x3 x58).f0, (rd_T56 x3 x58).f1, (rd_T56 x3 x58).f2, true⟩ : S56)) x57 (wrap64 (x58 + 1)))) else (none)) else (none)) else (some x3)
end
def corporaref01_Units.f (k : Nat) (a0 : ByteArray) : Option ((List (S56))) := corporaref01_Units.l0 k a0 ([] : List (S56)) 0 (a0.size : Int)
theorem corporaref01_Units.mono_l : ∀ k, (∀ y0 y1 y2 y3, LeO (corporaref01_Units.l0 k y0 y1 y2 y3) (corporaref01_Units.l0 (k + 1) y0 y1 y2 y3)) ∧ (∀ y0, LeO (corporaref01_Units.j1 k y0) (corporaref01_Units.j1 (k + 1) y0)) ∧ (∀ y0 y1 y2, LeO (corporaref01_Units.l1 k y0 y1 y2) (corporaref01_Units.l1 (k + 1) y0 y1 y2))
  | 0 => ⟨fun _ _ _ _ r h => by simp [corporaref01_Units.l0] at h, fun _ r h => by simp [corporaref01_Units.j1] at h, fun _ _ _ r h => by simp [corporaref01_Units.l1] at h⟩
  | k + 1 => by
    obtain ⟨ih0, ih1, ih2⟩ := corporaref01_Units.mono_l k
    refine ⟨?_, ?_, ?_⟩
    · intro y0 y1 y2 y3
      unfold corporaref01_Units.l0
      repeat' first
      | (with_reducible exact ih0 _ _ _ _)
      | (with_reducible exact ih1 _)
      | (with_reducible exact ih2 _ _ _)
      | (with_reducible exact LeO.refl _)
      | (with_reducible exact LeO.none _)
      | (with_reducible refine LeO.ite ?_ ?_)
      | (with_reducible refine LeO.bind ?_ (fun _ => ?_))
      | exact ih0 _ _ _ _
      | exact ih1 _
      | exact ih2 _ _ _
      | exact LeO.none _
      | refine LeO.ite ?_ ?_
      | refine LeO.bind ?_ (fun _ => ?_)
    · intro y0
      unfold corporaref01_Units.j1
      repeat' first
      | (with_reducible exact ih0 _ _ _ _)
      | (with_reducible exact ih1 _)
      | (with_reducible exact ih2 _ _ _)
      | (with_reducible exact LeO.refl _)
      | (with_reducible exact LeO.none _)
      | (with_reducible refine LeO.ite ?_ ?_)
      | (with_reducible refine LeO.bind ?_ (fun _ => ?_))
      | exact ih0 _ _ _ _
      | exact ih1 _
      | exact ih2 _ _ _
      | exact LeO.none _
      | refine LeO.ite ?_ ?_
      | refine LeO.bind ?_ (fun _ => ?_)
    · intro y0 y1 y2
      unfold corporaref01_Units.l1
      repeat' first
      | (with_reducible exact ih0 _ _ _ _)
      | (with_reducible exact ih1 _)
      | (with_reducible exact ih2 _ _ _)
      | (with_reducible exact LeO.refl _)
      | (with_reducible exact LeO.none _)
      | (with_reducible refine LeO.ite ?_ ?_)
      | (with_reducible refine LeO.bind ?_ (fun _ => ?_))
      | exact ih0 _ _ _ _
      | exact ih1 _
      | exact ih2 _ _ _
      | exact LeO.none _
      | refine LeO.ite ?_ ?_
      | refine LeO.bind ?_ (fun _ => ?_)
theorem corporaref01_Units.mono : ∀ a0 k, LeO (corporaref01_Units.f k a0) (corporaref01_Units.f (k + 1) a0) := by
  intro a0 k
  obtain ⟨ih0, ih1, ih2⟩ := corporaref01_Units.mono_l k
  unfold corporaref01_Units.f
  repeat' first
      | (with_reducible exact ih0 _ _ _ _)
      | (with_reducible exact ih1 _)
      | (with_reducible exact ih2 _ _ _)
      | (with_reducible exact LeO.refl _)
      | (with_reducible exact LeO.none _)
      | (with_reducible refine LeO.ite ?_ ?_)
      | (with_reducible refine LeO.bind ?_ (fun _ => ?_))
      | exact ih0 _ _ _ _
      | exact ih1 _
      | exact ih2 _ _ _
      | exact LeO.none _
      | refine LeO.ite ?_ ?_
      | refine LeO.bind ?_ (fun _ => ?_)
set_option maxHeartbeats 8000000 in
set_option maxRecDepth 100000 in
theorem corporaref01_Units.calls (k : Nat) (a0 : ByteArray) (r : List (S56)) (w : World) (h : corporaref01_Units.f k a0 = some r) :
    Calls Try.prog 41 #[.string a0] w fun e w' => ∃ v0_ : Value, e = .returned (v0_) ∧ Kd.R k56 56 w' w.heap.size (fun _ => True) v0_ r ∧ Below w.heap.size w w' := by
  have hu56 := Try.underlying56
  have HB := Aside0.mk (Below.refl w.heap.size w)
  have H : (corporaref01_Units.l0 k a0 ([] : List (S56)) 0 (a0.size : Int)) = some r := h
  clear h
  have H' := Aside0.mk H
  clear H
  go_enter Try.func41, Try.ntmps41
  go_wp2
  go_loopg [3] k (fun kq v3 w' => ∃ (x3_1 : List (S56)) (x8_1 : Int), 0 ≤ x8_1 ∧ Aside0 (corporaref01_Units.l0 kq a0 x3_1 x8_1 (a0.size : Int) = some r) ∧ Aside0 (kq ≤ k) ∧ Aside0 (Kd.R k56 56 w' (w.iter a0 x8_1.toNat).heap.size (fun _ => True) v3 x3_1) ∧ Aside0 (Below (w.iter a0 x8_1.toNat).heap.size (w.iter a0 x8_1.toNat) w'))
  case atStart => exact ⟨([] : List (S56)), 0, Int.le_refl _, H', ⟨Nat.le_refl _⟩, ⟨Kd.R_nil _ _ _ _ _⟩, ⟨Below.refl _ _⟩⟩
  case round =>
    clear H'
    obtain ⟨x3_1, x8_1, h8_, HA, HK1, HO_3, HB⟩ := hrel
    cases gk with
    | zero => exact absurd HA.out (by simp [corporaref01_Units.l0])
    | succ k1 =>
      have H := HA.out
      clear HA
      simp only [corporaref01_Units.l0] at H
      by_cases c2 : x8_1 < (a0.size : Int)
      · rw [if_pos c2] at H
        have c2b0 : decide (x8_1 < (a0.size : Int)) = true := decide_eq_true c2
        clear c2
        have hsz_ := iter_size w a0 x8_1.toNat
        have hit_ := (HB.out.block w.heap.size (by omega)).trans (World.iter_heap w a0 x8_1.toNat)
        have hp_ : x8_1.toNat < a0.size := by have h_ : x8_1 < (a0.size : Int) := of_decide_eq_true c2b0; omega
        obtain ⟨wq, hwq_⟩ : ∃ wq, wr.putObj w.heap.size (.stringIter a0 (x8_1 + wd_ a0 x8_1).toNat) = wq := ⟨_, rfl⟩
        have hnx : ∀ ty, (Instr.next (.pointer (some ⟨w.heap.size, 0, none⟩)) true ty).run Try.prog wr = .ok (.tuple #[.bool true, .int .i64 x8_1, .int .i32 (rn_ a0 x8_1)]) wq := fun ty => by
          rw [← hwq_]; exact next_rn wr w.heap.size a0 x8_1 ty h8_ hit_ hp_
        have n0_ := turn_below w wr a0 x8_1.toNat (x8_1 + wd_ a0 x8_1).toNat HB.out
        have n1_ := turn_R w wr a0 x8_1.toNat (x8_1 + wd_ a0 x8_1).toNat HO_3.out
        rw [hwq_] at n0_ n1_
        obtain ⟨wJ, hwJ_⟩ : ∃ wJ, w.iter a0 (x8_1 + wd_ a0 x8_1).toNat = wJ := ⟨_, rfl⟩
        rw [hwJ_] at n0_ n1_
        replace hwJ_ := Aside0.mk hwJ_
        clear HB HO_3 hwq_ hit_ hsz_ hp_
        have HB := Aside0.mk n0_
        have HO_3 := Aside0.mk n1_
        clear n0_ n1_
        by_cases c3 : (x3_1.length : Int) > 0
        · rw [if_pos c3] at H
          have c3b0 : decide (0 < (x3_1.length : Int)) = true := decide_eq_true c3
          have c3b1 : decide (0 < x3_1.length) = true := decide_eq_true (by omega)
          clear c3
          obtain ⟨ji4, hji4⟩ : ∃ j_ : Int, (wrap64 ((x3_1.length : Int) - 1)) = j_ := ⟨_, rfl⟩
          replace H : (if 0 ≤ (ji4) then (if (ji4) < (x3_1.length : Int) then ((some (x3_1.set ((ji4) : Int).toNat (⟨(rd_T56 x3_1 (ji4)).f0, (rd_T56 x3_1 (ji4)).f1, wrap64 (x8_1 - ((rd_T56 x3_1 (ji4)).f1)), (rd_T56 x3_1 (ji4)).f3⟩ : S56) : List (S56))).bind fun y116 => (if y116.length < 4398046511104 then (corporaref01_Units.l0 k1 a0 (y116 ++ [(⟨rn_ a0 x8_1, x8_1, 0, false⟩ : S56)]) (x8_1 + wd_ a0 x8_1) (a0.size : Int)) else (none))) else (none)) else (none)) = some r := by first | (rw [hji4] at H; exact H) | (simp only [hji4] at H ⊢; exact H)
          have hji4w : (IntKind.i64.wrap ((x3_1.length : Int) - 1)) = ji4 := (i64_w _).trans hji4
          by_cases c5 : 0 ≤ (ji4)
          · rw [if_pos c5] at H
            have c5b0 : decide (0 ≤ (ji4)) = true := decide_eq_true c5
            clear c5
            by_cases c6 : (ji4) < (x3_1.length : Int)
            · rw [if_pos c6] at H
              have c6b0 : decide ((ji4) < (x3_1.length : Int)) = true := decide_eq_true c6
              clear c6
              obtain ⟨y116, hy116⟩ : ∃ y_ : List (S56), y_ = (x3_1.set ((ji4) : Int).toNat (⟨(rd_T56 x3_1 (ji4)).f0, (rd_T56 x3_1 (ji4)).f1, wrap64 (x8_1 - ((rd_T56 x3_1 (ji4)).f1)), (rd_T56 x3_1 (ji4)).f3⟩ : S56)) := ⟨_, rfl⟩
              replace H : (if y116.length < 4398046511104 then (corporaref01_Units.l0 k1 a0 (y116 ++ [(⟨rn_ a0 x8_1, x8_1, 0, false⟩ : S56)]) (x8_1 + wd_ a0 x8_1) (a0.size : Int)) else (none)) = some r := by first | (rw [hy116]; with_reducible exact H) | (have H2_ := (Option.bind_some _ _).symm.trans H; rw [hy116]; with_reducible exact H2_) | (have H2_ := (Option.bind_some _ _).symm.trans H; with_reducible exact H2_) | with_reducible exact H | (rw [hy116]; exact H) | exact H
              have Ny116 := Aside0.mk hy116
              clear hy116
              by_cases c8 : y116.length < 4398046511104
              · rw [if_pos c8] at H
                have LMc8 := Aside0.mk c8
                clear c8
                obtain ⟨y117, hy117⟩ : ∃ y_ : List (S56), y_ = (y116 ++ [(⟨rn_ a0 x8_1, x8_1, 0, false⟩ : S56)]) := ⟨_, rfl⟩
                replace H : (corporaref01_Units.l0 k1 a0 y117 (x8_1 + wd_ a0 x8_1) (a0.size : Int)) = some r := by first | (rw [hy117]; with_reducible exact H) | (have H2_ := (Option.bind_some _ _).symm.trans H; rw [hy117]; with_reducible exact H2_) | (have H2_ := (Option.bind_some _ _).symm.trans H; with_reducible exact H2_) | with_reducible exact H | (rw [hy117]; exact H) | exact H
                have Ny117 := Aside0.mk hy117
                clear hy117
                have H' := Aside0.mk H
                clear H
                obtain ⟨Ao9, co9, eo9⟩ := Kd.R_slice HO_3.out
                subst eo9
                have p115 : 0 ≤ ((ji4) : Int) := of_decide_eq_true (by first | (with_reducible assumption) | assumption)
                have q115 : (ji4) < (x3_1.length : Int) := of_decide_eq_true (by first | (with_reducible assumption) | assumption)
                obtain ⟨ad115, e115, hx115_0, hx115_1, hx115_2, hx115_3⟩ := at_T56 (Kd.R_reads' HO_3.out).2.2 (ji4) p115 q115
                cases e115
                replace p115 := eq_true p115
                replace q115 := eq_true q115
                have p7 : 0 ≤ ((ji4) : Int) := of_decide_eq_true (by first | (with_reducible assumption) | assumption)
                have q7 : ((ji4) : Int) < ((x3_1.length : Int) : Int) := of_decide_eq_true (by first | (with_reducible assumption) | assumption)
                obtain ⟨go7, co7, eo7, gb7, gl7, cl7, HG7⟩ := Kd.R_form HO_3.out (by omega)
                (first | cases eo7 | (injection eo7 with ea_ en_ ec_; (first | subst ea_ | (injection ea_ with ea_; subst ea_)); subst ec_; clear en_))
                have GB7 := Aside0.mk gb7
                have GG7 := Aside0.mk HG7
                clear gb7 gl7 HG7
                (first | simp only [add_plain] at hx115_0 | skip)
                (first | simp only [add_plain] at hx115_1 | skip)
                (first | simp only [add_plain] at hx115_2 | skip)
                (first | simp only [add_plain] at hx115_3 | skip)
                obtain ⟨ce7, hcl7, hM7, hcc7, hfr7⟩ := Kd.R_elem HO_3.out z56 ((ji4) : Int) p7 q7
                obtain rfl := k56_openM hM7
                have hx7_0 : wq.cell? ⟨go7, ((ji4) : Int).toNat * 4, none⟩ = some (.int .i32 ((rd_T56 x3_1 (ji4)).f0)) := hcc7 0 _ rfl
                have hx7_1 : wq.cell? ⟨go7, ((ji4) : Int).toNat * 4 + 1, none⟩ = some (.int .i64 ((rd_T56 x3_1 (ji4)).f1)) := hcc7 1 _ rfl
                have hx7_2 : wq.cell? ⟨go7, ((ji4) : Int).toNat * 4 + 2, none⟩ = some (.int .i64 ((rd_T56 x3_1 (ji4)).f2)) := hcc7 2 _ rfl
                have hx7_3 : wq.cell? ⟨go7, ((ji4) : Int).toNat * 4 + 3, none⟩ = some (.bool ((rd_T56 x3_1 (ji4)).f3)) := hcc7 3 _ rfl
                have hf7_0 : wq.frozen? ⟨go7, ((ji4) : Int).toNat * 4, none⟩ = false := hfr7 0
                have hf7_1 : wq.frozen? ⟨go7, ((ji4) : Int).toNat * 4 + 1, none⟩ = false := hfr7 1
                have hf7_2 : wq.frozen? ⟨go7, ((ji4) : Int).toNat * 4 + 2, none⟩ = false := hfr7 2
                have hf7_3 : wq.frozen? ⟨go7, ((ji4) : Int).toNat * 4 + 3, none⟩ = false := hfr7 3
                clear hcl7 hcc7 hfr7 hM7
                replace p7 := eq_true p7
                replace q7 := eq_true q7
                have HX10 := Aside0.mk (show Kd.R k56 56 wq wJ.heap.size (fun _ => True) (.slice (some ⟨go7, 0, none⟩) x3_1.length co9) x3_1 from (by (with_reducible repeat (first | apply Kd.R_alloc | apply Kd.R_drewN | apply Kd.R_drew)); exact HO_3.out))
                obtain ⟨ce10, hcl10, hM10, hcc10, hfr10⟩ := Kd.R_elem HX10.out z56 ((ji4) : Int) (of_decide_eq_true (by first | (with_reducible assumption) | assumption)) (by have h_ : ((ji4) : Int) < ((x3_1.length : Int) : Int) := of_decide_eq_true (by first | (with_reducible assumption) | assumption); first | exact h_ | (have e_ := (Kd.R_reads' HO_3.out).1; omega) | simpa using h_)
                obtain rfl := k56_openM hM10
                have HP10 := Kd.R_seg HX10.out ((ji4) : Int) (of_decide_eq_true (by first | (with_reducible assumption) | assumption)) (by have h_ : ((ji4) : Int) < ((x3_1.length : Int) : Int) := of_decide_eq_true (by first | (with_reducible assumption) | assumption); first | exact h_ | (have e_ := (Kd.R_reads' HO_3.out).1; omega) | simpa using h_) (seg := [.int .i64 (wrap64 (x8_1 - ((rd_T56 x3_1 (ji4)).f1)))]) (j := 2) hcl10 hcc10 (show 3 ≤ 4 from by decide) (x' := (⟨(rd_T56 x3_1 (ji4)).f0, (rd_T56 x3_1 (ji4)).f1, wrap64 (x8_1 - ((rd_T56 x3_1 (ji4)).f1)), (rd_T56 x3_1 (ji4)).f3⟩ : S56)) (k56_mkM _ _ _ (⟨(rd_T56 x3_1 (ji4)).f0, (rd_T56 x3_1 (ji4)).f1, wrap64 (x8_1 - ((rd_T56 x3_1 (ji4)).f1)), (rd_T56 x3_1 (ji4)).f3⟩ : S56) ) (fun _ hk => hk)
                have hx10_2 := hcc10 2 _ rfl
                (try simp only [show (k56).sz = 4 from rfl, Nat.mul_one, Nat.add_zero] at hx10_2)
                have hf10_2 := hfr10 2
                (try simp only [show (k56).sz = 4 from rfl, Nat.mul_one, Nat.add_zero] at hf10_2)
                clear hcl10 hcc10 hfr10 hM10
                go_wp2_with (first | ((with_reducible refine gate_store (t := 3) (p := 30) rfl ?_); refine store_event (t := 3) (p := 30) (v := ?vo_w11) (w1 := (wq.setCell ⟨go7, ((ji4) : Int).toNat * 4 + 2, none⟩ (.int .i64 (wrap64 (x8_1 - ((rd_T56 x3_1 (ji4)).f1)))))) ?hg ?ho ?hn ?hr ?_; (case ho => rfl); (case hg => rfl); (case hn => rfl); (case hr => first | (go_simp; done) | (go_simp; rfl)); intro w11 hw; have hg : wq.grownBy w11 (some go7) := (by rw [hw]; exact HP10.2); have hp_ : Kd.R k56 56 w11 wJ.heap.size (fun _ => True) (.slice (some ⟨go7, 0, none⟩) x3_1.length co9) y116 := (by rw [hw, Ny116.out]; exact HP10.1); clear HP10; have n0_ := Aside0.mk (hp_); have n1_ := Aside0.mk ((by rw [hw]; exact below_set (HB.out) GB7.out : Below wJ.heap.size wJ w11)); clear HO_3; clear HB; have HO_3 := n0_; have HB := n1_; clear n0_ n1_; clear hg hw hp_) | ((with_reducible refine gate_builtin (b := .append) (xs := #[.tmp 31, .tmp 35]) rfl ?_); at_builtin; refine Kd.R_append k56 (w0 := wJ) wJ.heap.size rfl (.tmp 31) (.tmp 35) 53 56 (.agg #[(.int .i32 0), (.int .i64 0), (.int .i64 0), (.bool false)]) 32 rfl Try.underlying53 info56 rfl (by decide) (by omega) (.slice (some ⟨go7, 0, none⟩) x3_1.length co9) y116 (⟨rn_ a0 x8_1, x8_1, 0, false⟩ : S56) [.int .i32 (rn_ a0 x8_1), .int .i64 x8_1, .int .i64 0, .bool false] (fun _ => True) (fun _ => False) rfl rfl ?aP (fun _ hk => hk.elim) ?aF ?aO ?aB ?aS ?aL ?_; (case aP => exact k56_mkM _ _ _ (⟨rn_ a0 x8_1, x8_1, 0, false⟩ : S56)); (case aB => exact (by repeat (first | (with_reducible first | exact HB.out | apply below_alloc | apply pw_below_drewN | apply below_drew1) | exact HB.out))); (case aF => exact (fun _ _ => trivial)); (case aO => exact (by (with_reducible repeat (first | apply Kd.R_alloc | apply Kd.R_drewN | apply Kd.R_drew)); exact HO_3.out)); (case aS => exact (below_size (by repeat (first | (with_reducible first | exact HB.out | apply below_alloc | apply pw_below_drewN | apply below_drew1) | exact HB.out)))); (case aL => have := LMc8.out; omega); intro v118 w12 ho hb hg hat; rw [← Ny117.out] at ho; have n0_ := Aside0.mk (hb); have n1_ := Aside0.mk (ho); clear HB; clear HO_3; have HB := n0_; have HO119 := n1_; clear n0_ n1_; clear ho hb hg hat))
                go_roundg k1
                case measure => have := HK1.out; omega
                case rel => exact ⟨(y117), (x8_1 + wd_ a0 x8_1), (by have h_ := wd_nn a0 x8_1; omega), H', ⟨by have := HK1.out; omega⟩, ⟨by rw [hwJ_.out]; (with_reducible repeat (first | apply Kd.R_alloc | apply Kd.R_drewN | apply Kd.R_drew)); exact HO119.out⟩, ⟨by rw [hwJ_.out]; repeat (first | (with_reducible first | exact HB.out | apply below_alloc | apply pw_below_drewN | apply below_drew1) | exact HB.out)⟩⟩
              · rw [if_neg c8] at H
                exact absurd H (by simp)
            · rw [if_neg c6] at H
              exact absurd H (by simp)
          · rw [if_neg c5] at H
            exact absurd H (by simp)
        · rw [if_neg c3] at H
          have c3b0 : decide (0 < (x3_1.length : Int)) = false := decide_eq_false c3
          have c3b1 : decide (0 < x3_1.length) = false := decide_eq_false (by omega)
          clear c3
          by_cases c13 : x3_1.length < 4398046511104
          · rw [if_pos c13] at H
            have LMc13 := Aside0.mk c13
            clear c13
            obtain ⟨y120, hy120⟩ : ∃ y_ : List (S56), y_ = (x3_1 ++ [(⟨rn_ a0 x8_1, x8_1, 0, false⟩ : S56)]) := ⟨_, rfl⟩
            replace H : (corporaref01_Units.l0 k1 a0 y120 (x8_1 + wd_ a0 x8_1) (a0.size : Int)) = some r := by first | (rw [hy120]; with_reducible exact H) | (have H2_ := (Option.bind_some _ _).symm.trans H; rw [hy120]; with_reducible exact H2_) | (have H2_ := (Option.bind_some _ _).symm.trans H; with_reducible exact H2_) | with_reducible exact H | (rw [hy120]; exact H) | exact H
            have Ny120 := Aside0.mk hy120
            clear hy120
            have H' := Aside0.mk H
            clear H
            obtain ⟨Ao14, co14, eo14⟩ := Kd.R_slice HO_3.out
            subst eo14
            go_wp2_with (first | ((with_reducible refine gate_builtin (b := .append) (xs := #[.tmp 31, .tmp 35]) rfl ?_); at_builtin; refine Kd.R_append k56 (w0 := wJ) wJ.heap.size rfl (.tmp 31) (.tmp 35) 53 56 (.agg #[(.int .i32 0), (.int .i64 0), (.int .i64 0), (.bool false)]) 32 rfl Try.underlying53 info56 rfl (by decide) (by omega) (.slice Ao14 x3_1.length co14) x3_1 (⟨rn_ a0 x8_1, x8_1, 0, false⟩ : S56) [.int .i32 (rn_ a0 x8_1), .int .i64 x8_1, .int .i64 0, .bool false] (fun _ => True) (fun _ => False) rfl rfl ?aP (fun _ hk => hk.elim) ?aF ?aO ?aB ?aS ?aL ?_; (case aP => exact k56_mkM _ _ _ (⟨rn_ a0 x8_1, x8_1, 0, false⟩ : S56)); (case aB => exact (by repeat (first | (with_reducible first | exact HB.out | apply below_alloc | apply pw_below_drewN | apply below_drew1) | exact HB.out))); (case aF => exact (fun _ _ => trivial)); (case aO => exact (by (with_reducible repeat (first | apply Kd.R_alloc | apply Kd.R_drewN | apply Kd.R_drew)); exact HO_3.out)); (case aS => exact (below_size (by repeat (first | (with_reducible first | exact HB.out | apply below_alloc | apply pw_below_drewN | apply below_drew1) | exact HB.out)))); (case aL => have := LMc13.out; omega); intro v121 w15 ho hb hg hat; rw [← Ny120.out] at ho; have n0_ := Aside0.mk (hb); have n1_ := Aside0.mk (ho); clear HB; clear HO_3; have HB := n0_; have HO122 := n1_; clear n0_ n1_; clear ho hb hg hat))
            go_roundg k1
            case measure => have := HK1.out; omega
            case rel => exact ⟨(y120), (x8_1 + wd_ a0 x8_1), (by have h_ := wd_nn a0 x8_1; omega), H', ⟨by have := HK1.out; omega⟩, ⟨by rw [hwJ_.out]; (with_reducible repeat (first | apply Kd.R_alloc | apply Kd.R_drewN | apply Kd.R_drew)); exact HO122.out⟩, ⟨by rw [hwJ_.out]; repeat (first | (with_reducible first | exact HB.out | apply below_alloc | apply pw_below_drewN | apply below_drew1) | exact HB.out)⟩⟩
          · rw [if_neg c13] at H
            exact absurd H (by simp)
      · rw [if_neg c2] at H
        have c2b0 : decide (x8_1 < (a0.size : Int)) = false := decide_eq_false c2
        clear c2
        have hsz_ := iter_size w a0 x8_1.toNat
        have hit_ := (HB.out.block w.heap.size (by omega)).trans (World.iter_heap w a0 x8_1.toNat)
        have hnx : ∀ ty, (Instr.next (.pointer (some ⟨w.heap.size, 0, none⟩)) true ty).run Try.prog wr = .ok (.tuple #[.bool false]) wr := fun ty => run_next_over wr _ a0 _ ty hit_ (by have h_ : ¬ x8_1 < (a0.size : Int) := of_decide_eq_false c2b0; omega)
        have n0_ : Below w.heap.size w wr := ((Below.refl w.heap.size w).alloc (Nat.le_refl _) _).trans (HB.out.mono (by omega))
        have n1_ := Kd.R_lower HO_3.out (base' := w.heap.size) (by omega)
        clear HB HO_3 hit_ hsz_
        have HB := Aside0.mk n0_
        have HO_3 := Aside0.mk n1_
        clear n0_ n1_
        have HC16 := Aside0.mk H
        clear H
        obtain ⟨Ao17, co17, eo17⟩ := Kd.R_slice HO_3.out
        subst eo17
        go_upto_if 39 with (fail)
        go_cut [] (fun wc => ∃ (kq : Nat) (x3_15 : List (S56)), Aside0 (corporaref01_Units.j1 kq x3_15 = some r) ∧ Aside0 (kq ≤ k1) ∧ Aside0 (Kd.R k56 56 wc w.heap.size (fun _ => True) (.slice Ao17 x3_1.length co17) x3_15) ∧ Aside0 (Below w.heap.size w wc))
        case first =>
          have H := HC16.out
          clear HC16
          by_cases c18 : (x3_1.length : Int) > 0
          · rw [if_pos c18] at H
            have c18b0 : decide (0 < (x3_1.length : Int)) = true := decide_eq_true c18
            have c18b1 : decide (0 < x3_1.length) = true := decide_eq_true (by omega)
            clear c18
            (first | rw [c18b0] | rw [c18b1] | (simp only [i64_w, i32_w]; rw [c18b0]) | skip)
            obtain ⟨ji19, hji19⟩ : ∃ j_ : Int, (wrap64 ((x3_1.length : Int) - 1)) = j_ := ⟨_, rfl⟩
            replace H : (if 0 ≤ (ji19) then (if (ji19) < (x3_1.length : Int) then (corporaref01_Units.j1 k1 (x3_1.set ((ji19) : Int).toNat (⟨(rd_T56 x3_1 (ji19)).f0, (rd_T56 x3_1 (ji19)).f1, wrap64 ((a0.size : Int) - ((rd_T56 x3_1 (ji19)).f1)), (rd_T56 x3_1 (ji19)).f3⟩ : S56))) else (none)) else (none)) = some r := by first | (rw [hji19] at H; exact H) | (simp only [hji19] at H ⊢; exact H)
            have hji19w : (IntKind.i64.wrap ((x3_1.length : Int) - 1)) = ji19 := (i64_w _).trans hji19
            by_cases c20 : 0 ≤ (ji19)
            · rw [if_pos c20] at H
              have c20b0 : decide (0 ≤ (ji19)) = true := decide_eq_true c20
              clear c20
              by_cases c21 : (ji19) < (x3_1.length : Int)
              · rw [if_pos c21] at H
                have c21b0 : decide ((ji19) < (x3_1.length : Int)) = true := decide_eq_true c21
                clear c21
                obtain ⟨y124, hy124⟩ : ∃ y_ : List (S56), y_ = (x3_1.set ((ji19) : Int).toNat (⟨(rd_T56 x3_1 (ji19)).f0, (rd_T56 x3_1 (ji19)).f1, wrap64 ((a0.size : Int) - ((rd_T56 x3_1 (ji19)).f1)), (rd_T56 x3_1 (ji19)).f3⟩ : S56)) := ⟨_, rfl⟩
                replace H : (corporaref01_Units.j1 k1 y124) = some r := by first | (rw [hy124]; with_reducible exact H) | (have H2_ := (Option.bind_some _ _).symm.trans H; rw [hy124]; with_reducible exact H2_) | (have H2_ := (Option.bind_some _ _).symm.trans H; with_reducible exact H2_) | with_reducible exact H | (rw [hy124]; exact H) | exact H
                have Ny124 := Aside0.mk hy124
                clear hy124
                have H' := Aside0.mk H
                clear H
                have p123 : 0 ≤ ((ji19) : Int) := of_decide_eq_true (by first | (with_reducible assumption) | assumption)
                have q123 : (ji19) < (x3_1.length : Int) := of_decide_eq_true (by first | (with_reducible assumption) | assumption)
                obtain ⟨ad123, e123, hx123_0, hx123_1, hx123_2, hx123_3⟩ := at_T56 (Kd.R_reads' HO_3.out).2.2 (ji19) p123 q123
                cases e123
                replace p123 := eq_true p123
                replace q123 := eq_true q123
                have p22 : 0 ≤ ((ji19) : Int) := of_decide_eq_true (by first | (with_reducible assumption) | assumption)
                have q22 : ((ji19) : Int) < ((x3_1.length : Int) : Int) := of_decide_eq_true (by first | (with_reducible assumption) | assumption)
                obtain ⟨go22, co22, eo22, gb22, gl22, cl22, HG22⟩ := Kd.R_form HO_3.out (by omega)
                (first | cases eo22 | (injection eo22 with ea_ en_ ec_; (first | subst ea_ | (injection ea_ with ea_; subst ea_)); subst ec_; clear en_))
                have GB22 := Aside0.mk gb22
                have GG22 := Aside0.mk HG22
                clear gb22 gl22 HG22
                (first | simp only [add_plain] at hx123_0 | skip)
                (first | simp only [add_plain] at hx123_1 | skip)
                (first | simp only [add_plain] at hx123_2 | skip)
                (first | simp only [add_plain] at hx123_3 | skip)
                obtain ⟨ce22, hcl22, hM22, hcc22, hfr22⟩ := Kd.R_elem HO_3.out z56 ((ji19) : Int) p22 q22
                obtain rfl := k56_openM hM22
                have hx22_0 : wr.cell? ⟨go22, ((ji19) : Int).toNat * 4, none⟩ = some (.int .i32 ((rd_T56 x3_1 (ji19)).f0)) := hcc22 0 _ rfl
                have hx22_1 : wr.cell? ⟨go22, ((ji19) : Int).toNat * 4 + 1, none⟩ = some (.int .i64 ((rd_T56 x3_1 (ji19)).f1)) := hcc22 1 _ rfl
                have hx22_2 : wr.cell? ⟨go22, ((ji19) : Int).toNat * 4 + 2, none⟩ = some (.int .i64 ((rd_T56 x3_1 (ji19)).f2)) := hcc22 2 _ rfl
                have hx22_3 : wr.cell? ⟨go22, ((ji19) : Int).toNat * 4 + 3, none⟩ = some (.bool ((rd_T56 x3_1 (ji19)).f3)) := hcc22 3 _ rfl
                have hf22_0 : wr.frozen? ⟨go22, ((ji19) : Int).toNat * 4, none⟩ = false := hfr22 0
                have hf22_1 : wr.frozen? ⟨go22, ((ji19) : Int).toNat * 4 + 1, none⟩ = false := hfr22 1
                have hf22_2 : wr.frozen? ⟨go22, ((ji19) : Int).toNat * 4 + 2, none⟩ = false := hfr22 2
                have hf22_3 : wr.frozen? ⟨go22, ((ji19) : Int).toNat * 4 + 3, none⟩ = false := hfr22 3
                clear hcl22 hcc22 hfr22 hM22
                replace p22 := eq_true p22
                replace q22 := eq_true q22
                have HX23 := Aside0.mk (show Kd.R k56 56 wr w.heap.size (fun _ => True) (.slice (some ⟨go22, 0, none⟩) x3_1.length co17) x3_1 from (by (with_reducible repeat (first | apply Kd.R_alloc | apply Kd.R_drewN | apply Kd.R_drew)); exact HO_3.out))
                obtain ⟨ce23, hcl23, hM23, hcc23, hfr23⟩ := Kd.R_elem HX23.out z56 ((ji19) : Int) (of_decide_eq_true (by first | (with_reducible assumption) | assumption)) (by have h_ : ((ji19) : Int) < ((x3_1.length : Int) : Int) := of_decide_eq_true (by first | (with_reducible assumption) | assumption); first | exact h_ | (have e_ := (Kd.R_reads' HO_3.out).1; omega) | simpa using h_)
                obtain rfl := k56_openM hM23
                have HP23 := Kd.R_seg HX23.out ((ji19) : Int) (of_decide_eq_true (by first | (with_reducible assumption) | assumption)) (by have h_ : ((ji19) : Int) < ((x3_1.length : Int) : Int) := of_decide_eq_true (by first | (with_reducible assumption) | assumption); first | exact h_ | (have e_ := (Kd.R_reads' HO_3.out).1; omega) | simpa using h_) (seg := [.int .i64 (wrap64 ((a0.size : Int) - ((rd_T56 x3_1 (ji19)).f1)))]) (j := 2) hcl23 hcc23 (show 3 ≤ 4 from by decide) (x' := (⟨(rd_T56 x3_1 (ji19)).f0, (rd_T56 x3_1 (ji19)).f1, wrap64 ((a0.size : Int) - ((rd_T56 x3_1 (ji19)).f1)), (rd_T56 x3_1 (ji19)).f3⟩ : S56)) (k56_mkM _ _ _ (⟨(rd_T56 x3_1 (ji19)).f0, (rd_T56 x3_1 (ji19)).f1, wrap64 ((a0.size : Int) - ((rd_T56 x3_1 (ji19)).f1)), (rd_T56 x3_1 (ji19)).f3⟩ : S56) ) (fun _ hk => hk)
                have hx23_2 := hcc23 2 _ rfl
                (try simp only [show (k56).sz = 4 from rfl, Nat.mul_one, Nat.add_zero] at hx23_2)
                have hf23_2 := hfr23 2
                (try simp only [show (k56).sz = 4 from rfl, Nat.mul_one, Nat.add_zero] at hf23_2)
                clear hcl23 hcc23 hfr23 hM23
                go_wp2_with (first | ((with_reducible refine gate_store (t := 3) (p := 55) rfl ?_); refine store_event (t := 3) (p := 55) (v := ?vo_w24) (w1 := (wr.setCell ⟨go22, ((ji19) : Int).toNat * 4 + 2, none⟩ (.int .i64 (wrap64 ((a0.size : Int) - ((rd_T56 x3_1 (ji19)).f1)))))) ?hg ?ho ?hn ?hr ?_; (case ho => rfl); (case hg => rfl); (case hn => rfl); (case hr => first | (go_simp; done) | (go_simp; rfl)); intro w24 hw; have hg : wr.grownBy w24 (some go22) := (by rw [hw]; exact HP23.2); have hp_ : Kd.R k56 56 w24 w.heap.size (fun _ => True) (.slice (some ⟨go22, 0, none⟩) x3_1.length co17) y124 := (by rw [hw, Ny124.out]; exact HP23.1); clear HP23; have n0_ := Aside0.mk (hp_); have n1_ := Aside0.mk ((by rw [hw]; exact below_set (HB.out) GB22.out : Below w.heap.size w w24)); clear HO_3; clear HB; have HO_3 := n0_; have HB := n1_; clear n0_ n1_; clear hg hw hp_))
                go_meet
                case rel => exact ⟨_, (y124), H', ⟨by have := HK1.out; first | omega | exact Nat.le_refl _⟩, ⟨by (with_reducible repeat (first | apply Kd.R_alloc | apply Kd.R_drewN | apply Kd.R_drew)); exact HO_3.out⟩, ⟨by repeat (first | (with_reducible first | exact HB.out | apply below_alloc | apply pw_below_drewN | apply below_drew1) | exact HB.out)⟩⟩
              · rw [if_neg c21] at H
                exact absurd H (by simp)
            · rw [if_neg c20] at H
              exact absurd H (by simp)
          · rw [if_neg c18] at H
            have c18b0 : decide (0 < (x3_1.length : Int)) = false := decide_eq_false c18
            have c18b1 : decide (0 < x3_1.length) = false := decide_eq_false (by omega)
            clear c18
            (first | rw [c18b0] | rw [c18b1] | (simp only [i64_w, i32_w]; rw [c18b0]) | skip)
            have H' := Aside0.mk H
            clear H
            go_wp2
            go_meet
            case rel => exact ⟨_, (x3_1), H', ⟨by have := HK1.out; first | omega | exact Nat.le_refl _⟩, ⟨by (with_reducible repeat (first | apply Kd.R_alloc | apply Kd.R_drewN | apply Kd.R_drew)); exact HO_3.out⟩, ⟨by repeat (first | (with_reducible first | exact HB.out | apply below_alloc | apply pw_below_drewN | apply below_drew1) | exact HB.out)⟩⟩
        case rest =>
          clear HC16
          try clear c1
          try clear p1
          try clear q1
          try clear hx1
          try clear hf1
          try clear c2
          try clear c2b0
          try clear p2
          try clear q2
          try clear hx2
          try clear hf2
          try clear c3
          try clear c3b0
          try clear c3b1
          try clear c4
          try clear c5
          try clear c5b0
          try clear c6
          try clear c6b0
          try clear p6
          try clear c7
          try clear p7
          try clear q7
          try clear hx7
          try clear hf7
          try clear c8
          try clear c10
          try clear hx10
          try clear hf10
          try clear p11
          try clear q11
          try clear hx11
          try clear p12
          try clear q12
          try clear hx12
          try clear c13
          try clear c18
          try clear c18b0
          try clear c18b1
          try clear c20
          try clear c20b0
          try clear c21
          try clear c21b0
          try clear c22
          try clear p22
          try clear q22
          try clear hx22
          try clear hf22
          try clear c23
          try clear hx23
          try clear hf23
          try clear hx10_2
          try clear hx115_0
          try clear hx115_1
          try clear hx115_2
          try clear hx115_3
          try clear hx123_0
          try clear hx123_1
          try clear hx123_2
          try clear hx123_3
          try clear hx22_0
          try clear hx22_1
          try clear hx22_2
          try clear hx22_3
          try clear hx23_2
          try clear hx7_0
          try clear hx7_1
          try clear hx7_2
          try clear hx7_3
          try clear p115
          try clear p123
          try clear p22
          try clear p7
          try clear q115
          try clear q123
          try clear q22
          try clear q7
          obtain ⟨kq, x3_15, HA, HJ15, HO_3, HB⟩ := hcut
          have hl3_15 := (Kd.R_reads' HO_3.out).1
          rw [hl3_15] at HO_3
          (try simp only [hl3_15])
          cases kq with
          | zero => exact absurd HA.out (by simp [corporaref01_Units.j1])
          | succ kj15 =>
            have H := HA.out
            clear HA
            simp only [corporaref01_Units.j1] at H
            have H' := Aside0.mk H
            clear H
            go_wp2
            go_loopg [58] kj15 (fun kq v58 w' => ∃ (x3_3 : List (S56)) (x58_3 : Int), v58 = .int .i64 x58_3 ∧ Aside0 (corporaref01_Units.l1 kq x3_3 (x3_15.length : Int) x58_3 = some r) ∧ Aside0 (kq ≤ kj15) ∧ Aside0 (Kd.R k56 56 w' w.heap.size (fun _ => True) (.slice Ao17 x3_15.length co17) x3_3) ∧ Aside0 (Below w.heap.size w w'))
            case atStart => exact ⟨(x3_15), (0), (by first | rfl | (simp; done) | (simp [*]; done)), H', ⟨Nat.le_refl _⟩, ⟨by (try simp only [hl3_15]); (with_reducible repeat (first | apply Kd.R_alloc | apply Kd.R_drewN | apply Kd.R_drew)); exact HO_3.out⟩, ⟨by repeat (first | (with_reducible first | exact HB.out | apply below_alloc | apply pw_below_drewN | apply below_drew1) | exact HB.out)⟩⟩
            case round =>
              clear H'
              try clear c1
              try clear p1
              try clear q1
              try clear hx1
              try clear hf1
              try clear c2
              try clear c2b0
              try clear p2
              try clear q2
              try clear hx2
              try clear hf2
              try clear c3
              try clear c3b0
              try clear c3b1
              try clear c4
              try clear c5
              try clear c5b0
              try clear c6
              try clear c6b0
              try clear p6
              try clear c7
              try clear p7
              try clear q7
              try clear hx7
              try clear hf7
              try clear c8
              try clear c10
              try clear hx10
              try clear hf10
              try clear p11
              try clear q11
              try clear hx11
              try clear p12
              try clear q12
              try clear hx12
              try clear c13
              try clear c18
              try clear c18b0
              try clear c18b1
              try clear c20
              try clear c20b0
              try clear c21
              try clear c21b0
              try clear c22
              try clear p22
              try clear q22
              try clear hx22
              try clear hf22
              try clear c23
              try clear hx23
              try clear hf23
              try clear hx10_2
              try clear hx115_0
              try clear hx115_1
              try clear hx115_2
              try clear hx115_3
              try clear hx123_0
              try clear hx123_1
              try clear hx123_2
              try clear hx123_3
              try clear hx22_0
              try clear hx22_1
              try clear hx22_2
              try clear hx22_3
              try clear hx23_2
              try clear hx7_0
              try clear hx7_1
              try clear hx7_2
              try clear hx7_3
              try clear p1
              try clear p11
              try clear p115
              try clear p12
              try clear p123
              try clear p2
              try clear p22
              try clear p6
              try clear p7
              try clear q1
              try clear q11
              try clear q115
              try clear q12
              try clear q123
              try clear q2
              try clear q22
              try clear q7
              obtain ⟨x3_3, x58_3, rfl, HA, HK3, HO_3, HB⟩ := hrel
              have hl3_3 := (Kd.R_reads' HO_3.out).1
              rw [hl3_3] at HO_3
              (try simp only [hl3_3])
              cases gk with
              | zero => exact absurd HA.out (by simp [corporaref01_Units.l1])
              | succ k3 =>
                have H := HA.out
                clear HA
                simp only [corporaref01_Units.l1] at H
                by_cases c25 : x58_3 < (x3_15.length : Int)
                · rw [if_pos c25] at H
                  have c25b0 : decide (x58_3 < (x3_15.length : Int)) = true := decide_eq_true c25
                  clear c25
                  by_cases c26 : 0 ≤ x58_3
                  · rw [if_pos c26] at H
                    have c26b0 : decide (0 ≤ x58_3) = true := decide_eq_true c26
                    clear c26
                    by_cases c27 : x58_3 < (x3_3.length : Int)
                    · rw [if_pos c27] at H
                      have c27b0 : decide (x58_3 < (x3_3.length : Int)) = true := decide_eq_true c27
                      clear c27
                      by_cases c28 : ((rd_T56 x3_3 x58_3).f0) = 65533
                      · rw [if_pos c28] at H
                        have c28b0 : (((rd_T56 x3_3 x58_3).f0) == 65533) = true := beq_iff_eq.mpr c28
                        have c28b1 : (((rd_T56 x3_3 x58_3).f0) != 65533) = false := bne_eq_false_iff_eq.mpr c28
                        clear c28
                        obtain ⟨y127, hy127⟩ : ∃ y_ : List (S56), y_ = (x3_3.set (x58_3 : Int).toNat (⟨(rd_T56 x3_3 x58_3).f0, (rd_T56 x3_3 x58_3).f1, (rd_T56 x3_3 x58_3).f2, (((rd_T56 x3_3 x58_3).f2) == 3)⟩ : S56)) := ⟨_, rfl⟩
                        replace H : (corporaref01_Units.l1 k3 y127 (x3_15.length : Int) (wrap64 (x58_3 + 1))) = some r := by first | (rw [hy127]; with_reducible exact H) | (have H2_ := (Option.bind_some _ _).symm.trans H; rw [hy127]; with_reducible exact H2_) | (have H2_ := (Option.bind_some _ _).symm.trans H; with_reducible exact H2_) | with_reducible exact H | (rw [hy127]; exact H) | exact H
                        have Ny127 := Aside0.mk hy127
                        clear hy127
                        have H' := Aside0.mk H
                        clear H
                        have p125 : 0 ≤ (x58_3 : Int) := of_decide_eq_true (by first | (with_reducible assumption) | assumption)
                        have q125 : x58_3 < (x3_3.length : Int) := of_decide_eq_true (by first | (with_reducible assumption) | assumption)
                        obtain ⟨ad125, e125, hx125_0, hx125_1, hx125_2, hx125_3⟩ := at_T56 (Kd.R_reads' HO_3.out).2.2 x58_3 p125 q125
                        cases e125
                        replace p125 := eq_true p125
                        replace q125 := eq_true q125
                        have p126 : 0 ≤ (x58_3 : Int) := of_decide_eq_true (by first | (with_reducible assumption) | assumption)
                        have q126 : x58_3 < (x3_3.length : Int) := of_decide_eq_true (by first | (with_reducible assumption) | assumption)
                        obtain ⟨ad126, e126, hx126_0, hx126_1, hx126_2, hx126_3⟩ := at_T56 (Kd.R_reads' HO_3.out).2.2 x58_3 p126 q126
                        obtain rfl : ad125 = ad126 := (by injection e126)
                        replace p126 := eq_true p126
                        replace q126 := eq_true q126
                        have p29 : 0 ≤ (x58_3 : Int) := of_decide_eq_true (by first | (with_reducible assumption) | assumption)
                        have q29 : (x58_3 : Int) < ((x3_3.length : Int) : Int) := of_decide_eq_true (by first | (with_reducible assumption) | assumption)
                        obtain ⟨go29, co29, eo29, gb29, gl29, cl29, HG29⟩ := Kd.R_form HO_3.out (by omega)
                        (first | cases eo29 | (injection eo29 with ea_ en_ ec_; (first | subst ea_ | (injection ea_ with ea_; subst ea_)); subst ec_; clear en_))
                        have GB29 := Aside0.mk gb29
                        have GG29 := Aside0.mk HG29
                        clear gb29 gl29 HG29
                        (first | simp only [add_plain] at hx125_0 | skip)
                        (first | simp only [add_plain] at hx125_1 | skip)
                        (first | simp only [add_plain] at hx125_2 | skip)
                        (first | simp only [add_plain] at hx125_3 | skip)
                        (first | simp only [add_plain] at hx126_0 | skip)
                        (first | simp only [add_plain] at hx126_1 | skip)
                        (first | simp only [add_plain] at hx126_2 | skip)
                        (first | simp only [add_plain] at hx126_3 | skip)
                        obtain ⟨ce29, hcl29, hM29, hcc29, hfr29⟩ := Kd.R_elem HO_3.out z56 (x58_3 : Int) p29 q29
                        obtain rfl := k56_openM hM29
                        have hx29_0 : wr.cell? ⟨go29, (x58_3 : Int).toNat * 4, none⟩ = some (.int .i32 ((rd_T56 x3_3 x58_3).f0)) := hcc29 0 _ rfl
                        have hx29_1 : wr.cell? ⟨go29, (x58_3 : Int).toNat * 4 + 1, none⟩ = some (.int .i64 ((rd_T56 x3_3 x58_3).f1)) := hcc29 1 _ rfl
                        have hx29_2 : wr.cell? ⟨go29, (x58_3 : Int).toNat * 4 + 2, none⟩ = some (.int .i64 ((rd_T56 x3_3 x58_3).f2)) := hcc29 2 _ rfl
                        have hx29_3 : wr.cell? ⟨go29, (x58_3 : Int).toNat * 4 + 3, none⟩ = some (.bool ((rd_T56 x3_3 x58_3).f3)) := hcc29 3 _ rfl
                        have hf29_0 : wr.frozen? ⟨go29, (x58_3 : Int).toNat * 4, none⟩ = false := hfr29 0
                        have hf29_1 : wr.frozen? ⟨go29, (x58_3 : Int).toNat * 4 + 1, none⟩ = false := hfr29 1
                        have hf29_2 : wr.frozen? ⟨go29, (x58_3 : Int).toNat * 4 + 2, none⟩ = false := hfr29 2
                        have hf29_3 : wr.frozen? ⟨go29, (x58_3 : Int).toNat * 4 + 3, none⟩ = false := hfr29 3
                        clear hcl29 hcc29 hfr29 hM29
                        replace p29 := eq_true p29
                        replace q29 := eq_true q29
                        have HX30 := Aside0.mk (show Kd.R k56 56 wr w.heap.size (fun _ => True) (.slice (some ⟨go29, 0, none⟩) x3_3.length co17) x3_3 from (by (with_reducible repeat (first | apply Kd.R_alloc | apply Kd.R_drewN | apply Kd.R_drew)); exact HO_3.out))
                        obtain ⟨ce30, hcl30, hM30, hcc30, hfr30⟩ := Kd.R_elem HX30.out z56 (x58_3 : Int) (of_decide_eq_true (by first | (with_reducible assumption) | assumption)) (by have h_ : (x58_3 : Int) < ((x3_3.length : Int) : Int) := of_decide_eq_true (by first | (with_reducible assumption) | assumption); first | exact h_ | (have e_ := (Kd.R_reads' HO_3.out).1; omega) | simpa using h_)
                        obtain rfl := k56_openM hM30
                        have HP30 := Kd.R_seg HX30.out (x58_3 : Int) (of_decide_eq_true (by first | (with_reducible assumption) | assumption)) (by have h_ : (x58_3 : Int) < ((x3_3.length : Int) : Int) := of_decide_eq_true (by first | (with_reducible assumption) | assumption); first | exact h_ | (have e_ := (Kd.R_reads' HO_3.out).1; omega) | simpa using h_) (seg := [.bool (((rd_T56 x3_3 x58_3).f2) == 3)]) (j := 3) hcl30 hcc30 (show 4 ≤ 4 from by decide) (x' := (⟨(rd_T56 x3_3 x58_3).f0, (rd_T56 x3_3 x58_3).f1, (rd_T56 x3_3 x58_3).f2, (((rd_T56 x3_3 x58_3).f2) == 3)⟩ : S56)) (k56_mkM _ _ _ (⟨(rd_T56 x3_3 x58_3).f0, (rd_T56 x3_3 x58_3).f1, (rd_T56 x3_3 x58_3).f2, (((rd_T56 x3_3 x58_3).f2) == 3)⟩ : S56) ) (fun _ hk => hk)
                        have hx30_3 := hcc30 3 _ rfl
                        (try simp only [show (k56).sz = 4 from rfl, Nat.mul_one, Nat.add_zero] at hx30_3)
                        have hf30_3 := hfr30 3
                        (try simp only [show (k56).sz = 4 from rfl, Nat.mul_one, Nat.add_zero] at hf30_3)
                        clear hcl30 hcc30 hfr30 hM30
                        go_wp2_with (first | ((with_reducible refine gate_store (t := 4) (p := 78) rfl ?_); refine store_event (t := 4) (p := 78) (v := ?vo_w31) (w1 := (wr.setCell ⟨go29, (x58_3 : Int).toNat * 4 + 3, none⟩ (.bool (((rd_T56 x3_3 x58_3).f2) == 3)))) ?hg ?ho ?hn ?hr ?_; (case ho => rfl); (case hg => rfl); (case hn => rfl); (case hr => first | (go_simp; done) | (go_simp; rfl)); intro w31 hw; have hg : wr.grownBy w31 (some go29) := (by rw [hw]; exact HP30.2); have hp_ : Kd.R k56 56 w31 w.heap.size (fun _ => True) (.slice (some ⟨go29, 0, none⟩) x3_3.length co17) y127 := (by rw [hw, Ny127.out]; exact HP30.1); clear HP30; have n0_ := Aside0.mk (hp_); have n1_ := Aside0.mk ((by rw [hw]; exact below_set (HB.out) GB29.out : Below w.heap.size w w31)); clear HO_3; clear HB; have HO_3 := n0_; have HB := n1_; clear n0_ n1_; clear hg hw hp_))
                        (try simp only [← hl3_3])
                        go_roundg k3
                        case measure => have := HK1.out; have := HJ15.out; have := HK3.out; omega
                        case rel => exact ⟨(y127), (wrap64 (x58_3 + 1)), (by first | rfl | (simp; done) | (simp [*]; done)), H', ⟨by have := HK1.out; have := HJ15.out; have := HK3.out; omega⟩, ⟨by (try simp only [hl3_15]); (try simp only [hl3_3]); (with_reducible repeat (first | apply Kd.R_alloc | apply Kd.R_drewN | apply Kd.R_drew)); exact HO_3.out⟩, ⟨by repeat (first | (with_reducible first | exact HB.out | apply below_alloc | apply pw_below_drewN | apply below_drew1) | exact HB.out)⟩⟩
                      · rw [if_neg c28] at H
                        have c28b0 : (((rd_T56 x3_3 x58_3).f0) == 65533) = false := beq_eq_false_iff_ne.mpr c28
                        have c28b1 : (((rd_T56 x3_3 x58_3).f0) != 65533) = true := bne_iff_ne.mpr c28
                        obtain ⟨y128, hy128⟩ : ∃ y_ : List (S56), y_ = (x3_3.set (x58_3 : Int).toNat (⟨(rd_T56 x3_3 x58_3).f0, (rd_T56 x3_3 x58_3).f1, (rd_T56 x3_3 x58_3).f2, true⟩ : S56)) := ⟨_, rfl⟩
                        replace H : (corporaref01_Units.l1 k3 y128 (x3_15.length : Int) (wrap64 (x58_3 + 1))) = some r := by first | (rw [hy128]; with_reducible exact H) | (have H2_ := (Option.bind_some _ _).symm.trans H; rw [hy128]; with_reducible exact H2_) | (have H2_ := (Option.bind_some _ _).symm.trans H; with_reducible exact H2_) | with_reducible exact H | (rw [hy128]; exact H) | exact H
                        have Ny128 := Aside0.mk hy128
                        clear hy128
                        have H' := Aside0.mk H
                        clear H
                        have p125 : 0 ≤ (x58_3 : Int) := of_decide_eq_true (by first | (with_reducible assumption) | assumption)
                        have q125 : x58_3 < (x3_3.length : Int) := of_decide_eq_true (by first | (with_reducible assumption) | assumption)
                        obtain ⟨ad125, e125, hx125_0, hx125_1, hx125_2, hx125_3⟩ := at_T56 (Kd.R_reads' HO_3.out).2.2 x58_3 p125 q125
                        cases e125
                        replace p125 := eq_true p125
                        replace q125 := eq_true q125
                        have p32 : 0 ≤ (x58_3 : Int) := of_decide_eq_true (by first | (with_reducible assumption) | assumption)
                        have q32 : (x58_3 : Int) < ((x3_3.length : Int) : Int) := of_decide_eq_true (by first | (with_reducible assumption) | assumption)
                        obtain ⟨go32, co32, eo32, gb32, gl32, cl32, HG32⟩ := Kd.R_form HO_3.out (by omega)
                        (first | cases eo32 | (injection eo32 with ea_ en_ ec_; (first | subst ea_ | (injection ea_ with ea_; subst ea_)); subst ec_; clear en_))
                        have GB32 := Aside0.mk gb32
                        have GG32 := Aside0.mk HG32
                        clear gb32 gl32 HG32
                        (first | simp only [add_plain] at hx125_0 | skip)
                        (first | simp only [add_plain] at hx125_1 | skip)
                        (first | simp only [add_plain] at hx125_2 | skip)
                        (first | simp only [add_plain] at hx125_3 | skip)
                        obtain ⟨ce32, hcl32, hM32, hcc32, hfr32⟩ := Kd.R_elem HO_3.out z56 (x58_3 : Int) p32 q32
                        obtain rfl := k56_openM hM32
                        have hx32_0 : wr.cell? ⟨go32, (x58_3 : Int).toNat * 4, none⟩ = some (.int .i32 ((rd_T56 x3_3 x58_3).f0)) := hcc32 0 _ rfl
                        have hx32_1 : wr.cell? ⟨go32, (x58_3 : Int).toNat * 4 + 1, none⟩ = some (.int .i64 ((rd_T56 x3_3 x58_3).f1)) := hcc32 1 _ rfl
                        have hx32_2 : wr.cell? ⟨go32, (x58_3 : Int).toNat * 4 + 2, none⟩ = some (.int .i64 ((rd_T56 x3_3 x58_3).f2)) := hcc32 2 _ rfl
                        have hx32_3 : wr.cell? ⟨go32, (x58_3 : Int).toNat * 4 + 3, none⟩ = some (.bool ((rd_T56 x3_3 x58_3).f3)) := hcc32 3 _ rfl
                        have hf32_0 : wr.frozen? ⟨go32, (x58_3 : Int).toNat * 4, none⟩ = false := hfr32 0
                        have hf32_1 : wr.frozen? ⟨go32, (x58_3 : Int).toNat * 4 + 1, none⟩ = false := hfr32 1
                        have hf32_2 : wr.frozen? ⟨go32, (x58_3 : Int).toNat * 4 + 2, none⟩ = false := hfr32 2
                        have hf32_3 : wr.frozen? ⟨go32, (x58_3 : Int).toNat * 4 + 3, none⟩ = false := hfr32 3
                        clear hcl32 hcc32 hfr32 hM32
                        replace p32 := eq_true p32
                        replace q32 := eq_true q32
                        have HX33 := Aside0.mk (show Kd.R k56 56 wr w.heap.size (fun _ => True) (.slice (some ⟨go32, 0, none⟩) x3_3.length co17) x3_3 from (by (with_reducible repeat (first | apply Kd.R_alloc | apply Kd.R_drewN | apply Kd.R_drew)); exact HO_3.out))
                        obtain ⟨ce33, hcl33, hM33, hcc33, hfr33⟩ := Kd.R_elem HX33.out z56 (x58_3 : Int) (of_decide_eq_true (by first | (with_reducible assumption) | assumption)) (by have h_ : (x58_3 : Int) < ((x3_3.length : Int) : Int) := of_decide_eq_true (by first | (with_reducible assumption) | assumption); first | exact h_ | (have e_ := (Kd.R_reads' HO_3.out).1; omega) | simpa using h_)
                        obtain rfl := k56_openM hM33
                        have HP33 := Kd.R_seg HX33.out (x58_3 : Int) (of_decide_eq_true (by first | (with_reducible assumption) | assumption)) (by have h_ : (x58_3 : Int) < ((x3_3.length : Int) : Int) := of_decide_eq_true (by first | (with_reducible assumption) | assumption); first | exact h_ | (have e_ := (Kd.R_reads' HO_3.out).1; omega) | simpa using h_) (seg := [.bool true]) (j := 3) hcl33 hcc33 (show 4 ≤ 4 from by decide) (x' := (⟨(rd_T56 x3_3 x58_3).f0, (rd_T56 x3_3 x58_3).f1, (rd_T56 x3_3 x58_3).f2, true⟩ : S56)) (k56_mkM _ _ _ (⟨(rd_T56 x3_3 x58_3).f0, (rd_T56 x3_3 x58_3).f1, (rd_T56 x3_3 x58_3).f2, true⟩ : S56) ) (fun _ hk => hk)
                        have hx33_3 := hcc33 3 _ rfl
                        (try simp only [show (k56).sz = 4 from rfl, Nat.mul_one, Nat.add_zero] at hx33_3)
                        have hf33_3 := hfr33 3
                        (try simp only [show (k56).sz = 4 from rfl, Nat.mul_one, Nat.add_zero] at hf33_3)
                        clear hcl33 hcc33 hfr33 hM33
                        go_wp2_with (first | ((with_reducible refine gate_store (t := 4) (p := 78) rfl ?_); refine store_event (t := 4) (p := 78) (v := ?vo_w34) (w1 := (wr.setCell ⟨go32, (x58_3 : Int).toNat * 4 + 3, none⟩ (.bool true))) ?hg ?ho ?hn ?hr ?_; (case ho => rfl); (case hg => rfl); (case hn => rfl); (case hr => first | (go_simp; done) | (go_simp; rfl)); intro w34 hw; have hg : wr.grownBy w34 (some go32) := (by rw [hw]; exact HP33.2); have hp_ : Kd.R k56 56 w34 w.heap.size (fun _ => True) (.slice (some ⟨go32, 0, none⟩) x3_3.length co17) y128 := (by rw [hw, Ny128.out]; exact HP33.1); clear HP33; have n0_ := Aside0.mk (hp_); have n1_ := Aside0.mk ((by rw [hw]; exact below_set (HB.out) GB32.out : Below w.heap.size w w34)); clear HO_3; clear HB; have HO_3 := n0_; have HB := n1_; clear n0_ n1_; clear hg hw hp_))
                        (try simp only [← hl3_3])
                        go_roundg k3
                        case measure => have := HK1.out; have := HJ15.out; have := HK3.out; omega
                        case rel => exact ⟨(y128), (wrap64 (x58_3 + 1)), (by first | rfl | (simp; done) | (simp [*]; done)), H', ⟨by have := HK1.out; have := HJ15.out; have := HK3.out; omega⟩, ⟨by (try simp only [hl3_15]); (try simp only [hl3_3]); (with_reducible repeat (first | apply Kd.R_alloc | apply Kd.R_drewN | apply Kd.R_drew)); exact HO_3.out⟩, ⟨by repeat (first | (with_reducible first | exact HB.out | apply below_alloc | apply pw_below_drewN | apply below_drew1) | exact HB.out)⟩⟩
                    · rw [if_neg c27] at H
                      exact absurd H (by simp)
                  · rw [if_neg c26] at H
                    exact absurd H (by simp)
                · rw [if_neg c25] at H
                  have c25b0 : decide (x58_3 < (x3_15.length : Int)) = false := decide_eq_false c25
                  have c25b1 : decide (x58_3 < (x3_3.length : Int)) = false := by rw [← hl3_3]; exact c25b0
                  clear c25
                  obtain rfl := Option.some.inj H
                  go_wp2
                  go_ret
                  exact ⟨_, by first | rfl | (simp [errW_none, errW_some] <;> rfl) | (simp [*, errW_none, errW_some] <;> rfl), by (with_reducible repeat (first | apply Kd.R_alloc | apply Kd.R_drewN | apply Kd.R_drew)); exact HO_3.out, by repeat (first | (with_reducible first | exact HB.out | apply below_alloc | apply pw_below_drewN | apply below_drew1) | exact HB.out)⟩

end Go.Proofs.Ytcgglamgemgeiaa.Q
/- FCorporaref01Valid -/
namespace Go.Proofs.Ytcgglamgemgeiaa.Q
open Go.RowKit Go.Proofs.YtcgglamgemgeiaaW.PrintWords Go.Proofs.YtcgglamgemgeiaaW.PrintLast Go.Proofs.YtcgglamgemgeiaaW.PrintMore
attribute [local go_sem] max2_int min2_int max_two min_two max_three min_three max_four min_four   -- for this text's walks alone
set_option linter.unusedVariables false
set_option linter.unusedSimpArgs false

/-! ### corporaref01_Valid: function 37 -/
def corporaref01_Valid.l0 : Nat → List (S56) → Int → Int → Option (Bool)
  | 0, _, _, _ => none
  | k + 1, x6, x7, x8 => if x8 < x7 then (if 0 ≤ x8 then (if x8 < (x6.length : Int) then (if ((rd_T56 x6 x8).f3 = true) then (corporaref01_Valid.l0 k x6 x7 (wrap64 (x8 + 1))) else (some false)) else (none)) else (none)) else (some true)
def corporaref01_Valid.f (k : Nat) (a0 : ByteArray) : Option (Bool) := (corporaref01_Units.f k a0).bind fun t129 => (corporaref01_Valid.l0 k t129 (t129.length : Int) 0)
theorem corporaref01_Valid.mono_l : ∀ k, (∀ y0 y1 y2, LeO (corporaref01_Valid.l0 k y0 y1 y2) (corporaref01_Valid.l0 (k + 1) y0 y1 y2))
  | 0 => fun _ _ _ r h => by simp [corporaref01_Valid.l0] at h
  | k + 1 => by
    have ih0 := corporaref01_Valid.mono_l k
    · intro y0 y1 y2
      unfold corporaref01_Valid.l0
      repeat' first
      | (with_reducible exact ih0 _ _ _)
      | (with_reducible exact corporaref01_Units.mono _ _)
      | (with_reducible exact LeO.refl _)
      | (with_reducible exact LeO.none _)
      | (with_reducible refine LeO.ite ?_ ?_)
      | (with_reducible refine LeO.bind ?_ (fun _ => ?_))
      | exact ih0 _ _ _
      | exact corporaref01_Units.mono _ _
      | exact LeO.none _
      | refine LeO.ite ?_ ?_
      | refine LeO.bind ?_ (fun _ => ?_)
theorem corporaref01_Valid.mono : ∀ a0 k, LeO (corporaref01_Valid.f k a0) (corporaref01_Valid.f (k + 1) a0) := by
  intro a0 k
  have ih0 := corporaref01_Valid.mono_l k
  unfold corporaref01_Valid.f
  repeat' first
      | (with_reducible exact ih0 _ _ _)
      | (with_reducible exact corporaref01_Units.mono _ _)
      | (with_reducible exact LeO.refl _)
      | (with_reducible exact LeO.none _)
      | (with_reducible refine LeO.ite ?_ ?_)
      | (with_reducible refine LeO.bind ?_ (fun _ => ?_))
      | exact ih0 _ _ _
      | exact corporaref01_Units.mono _ _
      | exact LeO.none _
      | refine LeO.ite ?_ ?_
      | refine LeO.bind ?_ (fun _ => ?_)
set_option maxHeartbeats 8000000 in
set_option maxRecDepth 100000 in
theorem corporaref01_Valid.calls (k : Nat) (a0 : ByteArray) (r : Bool) (w : World) (h : corporaref01_Valid.f k a0 = some r) :
    Calls Try.prog 37 #[.string a0] w fun e w' => e = .returned (.bool r) ∧ Below w.heap.size w w' := by
  have hu56 := Try.underlying56
  have HB := Aside0.mk (Below.refl w.heap.size w)
  have H : ((corporaref01_Units.f k a0).bind fun t129 => (corporaref01_Valid.l0 k t129 (t129.length : Int) 0)) = some r := h
  clear h
  replace H := Option.bind_eq_some_iff.mp H
  obtain ⟨t129, A20, H⟩ := H
  replace H : (corporaref01_Valid.l0 k t129 (t129.length : Int) 0) = some r := H
  have A2 := Aside0.mk A20
  clear A20
  have H' := Aside0.mk H
  clear H
  go_enter Try.func37, Try.ntmps37
  go_wp2_with (first | ((with_reducible refine gate_callee (f := 41) rfl ?_); refine goesL_ (some 6) rfl rfl Try.func41 (by kernel_rfl) rfl #[.string a0] rfl (by (try simp only [List.map_toArray, List.map_cons, List.map_nil]); first | done | rfl | (simp only [List.length_drop, List.length_take]; rfl)) ?_; (with_reducible refine (corporaref01_Units.calls k a0 t129 _ A2.out).mono ?_); rintro e w3 ⟨v130, rfl, ho0, hb⟩; refine ⟨_, rfl, ?_⟩; have n0_ := Aside0.mk (Kd.R_lower ho0 (below_size (by repeat (first | (with_reducible first | exact HB.out | apply below_alloc | apply pw_below_drewN | apply below_drew1) | exact HB.out)))); have n1_ := Aside0.mk (below_step (by repeat (first | (with_reducible first | exact HB.out | apply below_alloc | apply pw_below_drewN | apply below_drew1) | exact HB.out)) hb); clear HB; have HO131 := n0_; have HB := n1_; clear n0_ n1_; (try clear hb); (try clear hb2); (try clear hk); (try clear hi); (try clear ho0); obtain ⟨Ao4, co4, eo4⟩ := Kd.R_slice HO131.out; subst eo4))
  go_loopg [8] k (fun kq v8 w' => ∃ (x8_1 : Int), v8 = .int .i64 x8_1 ∧ Aside0 (corporaref01_Valid.l0 kq t129 (t129.length : Int) x8_1 = some r) ∧ Aside0 (kq ≤ k) ∧ Aside0 (Kd.R k56 56 w' w.heap.size (fun _ => True) (.slice Ao4 t129.length co4) t129) ∧ Aside0 (Below w.heap.size w w'))
  case atStart => exact ⟨(0), (by first | rfl | (simp; done) | (simp [*]; done)), H', ⟨Nat.le_refl _⟩, ⟨by (with_reducible repeat (first | apply Kd.R_alloc | apply Kd.R_drewN | apply Kd.R_drew)); exact HO131.out⟩, ⟨by repeat (first | (with_reducible first | exact HB.out | apply below_alloc | apply pw_below_drewN | apply below_drew1) | exact HB.out)⟩⟩
  case round =>
    clear H'
    try clear p2
    try clear c3
    try clear c4
    obtain ⟨x8_1, rfl, HA, HK1, HO_6, HB⟩ := hrel
    cases gk with
    | zero => exact absurd HA.out (by simp [corporaref01_Valid.l0])
    | succ k1 =>
      have H := HA.out
      clear HA
      simp only [corporaref01_Valid.l0] at H
      by_cases c5 : x8_1 < (t129.length : Int)
      · rw [if_pos c5] at H
        have c5b0 : decide (x8_1 < (t129.length : Int)) = true := decide_eq_true c5
        clear c5
        by_cases c6 : 0 ≤ x8_1
        · rw [if_pos c6] at H
          have c6b0 : decide (0 ≤ x8_1) = true := decide_eq_true c6
          clear c6
          by_cases c7 : x8_1 < (t129.length : Int)
          · rw [if_pos c7] at H
            have c7b0 : decide (x8_1 < (t129.length : Int)) = true := decide_eq_true c7
            clear c7
            obtain ⟨bq8, hbq8⟩ : ∃ b_ : Bool, b_ = ((rd_T56 t129 x8_1).f3) := ⟨_, rfl⟩
            replace H : (if (bq8 = true) then (corporaref01_Valid.l0 k1 t129 (t129.length : Int) (wrap64 (x8_1 + 1))) else (some false)) = some r := by rw [← hbq8] at H; exact H
            have Nbq8 := Aside0.mk hbq8
            clear hbq8
            by_cases c9 : (bq8 = true)
            · subst c9
              have H1 : (corporaref01_Valid.l0 k1 t129 (t129.length : Int) (wrap64 (x8_1 + 1))) = some r := by rw [if_pos rfl] at H; exact H
              clear H
              have H := H1
              clear H1
              have H' := Aside0.mk H
              clear H
              have p132 : 0 ≤ (x8_1 : Int) := of_decide_eq_true (by first | (with_reducible assumption) | assumption)
              have q132 : x8_1 < (t129.length : Int) := of_decide_eq_true (by first | (with_reducible assumption) | assumption)
              obtain ⟨ad132, e132, hx132_0, hx132_1, hx132_2, hx132_3⟩ := at_T56 (Kd.R_reads' HO_6.out).2.2 x8_1 p132 q132
              (try rw [← Nbq8.out] at hx132_3)
              cases e132
              replace p132 := eq_true p132
              replace q132 := eq_true q132
              go_wp2_with (first | ((with_reducible refine gate_dst (N := 4) rfl ?_); refine box_event ?hg (N := 4) ?hd (cs := #[.int .i32 0, .int .i64 0, .int .i64 0, .bool false]) (t := 56) ?hr ?_; (case hd => rfl); (case hg => rfl); (case hr => first | (go_simp; done) | (go_simp; rfl)); intro gb133 hg w10 hbox hb; have n0_ := Aside0.mk (Kd.R_below (Kd.R_elderB (by (with_reducible repeat (first | apply Kd.R_alloc | apply Kd.R_drewN | apply Kd.R_drew)); exact HO_6.out) gb133 (Nat.le_of_eq hg.symm)) hb); have n1_ := Aside0.mk (below_step (by repeat (first | (with_reducible first | exact HB.out | apply below_alloc | apply pw_below_drewN | apply below_drew1) | exact HB.out)) hb); have n2_ := Aside0.mk (hbox); have n3_ := Aside0.mk ((by rw [hg]; exact (below_size (by repeat (first | (with_reducible first | exact HB.out | apply below_alloc | apply pw_below_drewN | apply below_drew1) | exact HB.out))) : w.heap.size ≤ gb133)); have n4_ := Aside0.mk ((by rw [hg]; exact (below_size (by repeat (first | (with_reducible first | exact HB.out | apply below_alloc | apply pw_below_drewN | apply below_drew1) | exact HB.out))) : w.heap.size ≤ gb133)); clear HO_6; clear HB; have HO_6 := n0_; have HB := n1_; have BK133 := n2_; have GW133 := n3_; have GE133 := n4_; clear n0_ n1_ n2_ n3_ n4_; clear hb hbox hg; have hcz11_0 : w10.cell? ⟨gb133, 0, none⟩ = some (.int .i32 0) := (blk_cell BK133.out 0).trans rfl; have hcz11_1 : w10.cell? ⟨gb133, 1, none⟩ = some (.int .i64 0) := (blk_cell BK133.out 1).trans rfl; have hcz11_2 : w10.cell? ⟨gb133, 2, none⟩ = some (.int .i64 0) := (blk_cell BK133.out 2).trans rfl; have hcz11_3 : w10.cell? ⟨gb133, 3, none⟩ = some (.bool false) := (blk_cell BK133.out 3).trans rfl; have hfz11_0 := blk_frozen BK133.out 0; have hfz11_1 := blk_frozen BK133.out 1; have hfz11_2 := blk_frozen BK133.out 2; have hfz11_3 := blk_frozen BK133.out 3))
              go_roundg k1
              case measure => have := HK1.out; omega
              case rel => exact ⟨(wrap64 (x8_1 + 1)), (by first | rfl | (simp; done) | (simp [*]; done)), H', ⟨by have := HK1.out; omega⟩, ⟨by (with_reducible repeat (first | apply Kd.R_alloc | apply Kd.R_drewN | apply Kd.R_drew)); exact Kd.R_mono (Kd.R_far (p := ⟨gb133, 3, none⟩) (Kd.R_far (p := ⟨gb133, 2, none⟩) (Kd.R_far (p := ⟨gb133, 1, none⟩) (Kd.R_far (p := ⟨gb133, 0, none⟩) (Kd.R_mono HO_6.out (fun k_ hk => (⟨hk, hk.2⟩ : _ ∧ k_ ≠ gb133))) (fun _ hk => hk.2) (.int .i32 ((rd_T56 t129 x8_1).f0))) (fun _ hk => hk.2) (.int .i64 ((rd_T56 t129 x8_1).f1))) (fun _ hk => hk.2) (.int .i64 ((rd_T56 t129 x8_1).f2))) (fun _ hk => hk.2) (.bool true)) (fun _ hk => trivial)⟩, ⟨by repeat (first | (with_reducible first | exact HB.out | apply below_alloc | apply pw_below_drewN | apply below_drew1 | refine below_set ?_ GE133.out) | exact HB.out)⟩⟩
            · replace c9 := Bool.eq_false_iff.mpr c9
              subst c9
              have H1 : (some false) = some r := by rw [if_neg (show ¬ (false = true) by decide)] at H; exact H
              clear H
              have H := H1
              clear H1
              obtain rfl := Option.some.inj H
              have p132 : 0 ≤ (x8_1 : Int) := of_decide_eq_true (by first | (with_reducible assumption) | assumption)
              have q132 : x8_1 < (t129.length : Int) := of_decide_eq_true (by first | (with_reducible assumption) | assumption)
              obtain ⟨ad132, e132, hx132_0, hx132_1, hx132_2, hx132_3⟩ := at_T56 (Kd.R_reads' HO_6.out).2.2 x8_1 p132 q132
              (try rw [← Nbq8.out] at hx132_3)
              cases e132
              replace p132 := eq_true p132
              replace q132 := eq_true q132
              go_wp2_with (first | ((with_reducible refine gate_dst (N := 4) rfl ?_); refine box_event ?hg (N := 4) ?hd (cs := #[.int .i32 0, .int .i64 0, .int .i64 0, .bool false]) (t := 56) ?hr ?_; (case hd => rfl); (case hg => rfl); (case hr => first | (go_simp; done) | (go_simp; rfl)); intro gb133 hg w12 hbox hb; have n0_ := Aside0.mk (Kd.R_below (Kd.R_elderB (by (with_reducible repeat (first | apply Kd.R_alloc | apply Kd.R_drewN | apply Kd.R_drew)); exact HO_6.out) gb133 (Nat.le_of_eq hg.symm)) hb); have n1_ := Aside0.mk (below_step (by repeat (first | (with_reducible first | exact HB.out | apply below_alloc | apply pw_below_drewN | apply below_drew1) | exact HB.out)) hb); have n2_ := Aside0.mk (hbox); have n3_ := Aside0.mk ((by rw [hg]; exact (below_size (by repeat (first | (with_reducible first | exact HB.out | apply below_alloc | apply pw_below_drewN | apply below_drew1) | exact HB.out))) : w.heap.size ≤ gb133)); have n4_ := Aside0.mk ((by rw [hg]; exact (below_size (by repeat (first | (with_reducible first | exact HB.out | apply below_alloc | apply pw_below_drewN | apply below_drew1) | exact HB.out))) : w.heap.size ≤ gb133)); clear HO_6; clear HB; have HO_6 := n0_; have HB := n1_; have BK133 := n2_; have GW133 := n3_; have GE133 := n4_; clear n0_ n1_ n2_ n3_ n4_; clear hb hbox hg; have hcz13_0 : w12.cell? ⟨gb133, 0, none⟩ = some (.int .i32 0) := (blk_cell BK133.out 0).trans rfl; have hcz13_1 : w12.cell? ⟨gb133, 1, none⟩ = some (.int .i64 0) := (blk_cell BK133.out 1).trans rfl; have hcz13_2 : w12.cell? ⟨gb133, 2, none⟩ = some (.int .i64 0) := (blk_cell BK133.out 2).trans rfl; have hcz13_3 : w12.cell? ⟨gb133, 3, none⟩ = some (.bool false) := (blk_cell BK133.out 3).trans rfl; have hfz13_0 := blk_frozen BK133.out 0; have hfz13_1 := blk_frozen BK133.out 1; have hfz13_2 := blk_frozen BK133.out 2; have hfz13_3 := blk_frozen BK133.out 3))
              go_ret
              exact ⟨by first | rfl | (simp [errW_none, errW_some] <;> rfl) | (simp [*, errW_none, errW_some] <;> rfl), by repeat (first | (with_reducible first | exact HB.out | apply below_alloc | apply pw_below_drewN | apply below_drew1 | refine below_set ?_ GE133.out) | exact HB.out)⟩
          · rw [if_neg c7] at H
            exact absurd H (by simp)
        · rw [if_neg c6] at H
          exact absurd H (by simp)
      · rw [if_neg c5] at H
        have c5b0 : decide (x8_1 < (t129.length : Int)) = false := decide_eq_false c5
        clear c5
        obtain rfl := Option.some.inj H
        go_wp2
        go_ret
        exact ⟨by first | rfl | (simp [errW_none, errW_some] <;> rfl) | (simp [*, errW_none, errW_some] <;> rfl), by repeat (first | (with_reducible first | exact HB.out | apply below_alloc | apply pw_below_drewN | apply below_drew1) | exact HB.out)⟩

end Go.Proofs.Ytcgglamgemgeiaa.Q
/- EvAid -/
namespace Go.Proofs.Ytcgglamgemgeiaa.Q
open Go.RowKit Go.Lib Go.Proofs.YtcgglamgemgeiaaW.PrintWords Go.Proofs.YtcgglamgemgeiaaW.PrintLast
/-- The number in a slot. -/
def ixOf : Value → Nat
  | .int _ n => n.toNat
  | _ => 0
theorem ev_pos {α : Type} {c : Prop} [Decidable c] {f g : Nat → Option α} {r : α} (h : c) (e : Ev f r) : Ev (fun k => if c then f k else g k) r := Ev.congr (fun _ => if_pos h) e
theorem ev_neg {α : Type} {c : Prop} [Decidable c] {f g : Nat → Option α} {r : α} (h : ¬ c) (e : Ev g r) : Ev (fun k => if c then f k else g k) r := Ev.congr (fun _ => if_neg h) e
theorem ev_some {α β : Type} {a : α} {f : Nat → α → Option β} {r : β} (e : Ev (fun k => f k a) r) : Ev (fun k => (some a).bind (f k)) r := e
theorem ev_now {α : Type} {r r' : α} (h : r = r') : Ev (fun _ => some r) r' := by subst h; exact Ev.now r
theorem ev_eq {α : Type} {f : Nat → Option α} {r r' : α} (e : Ev f r) (h : r = r') : Ev f r' := h ▸ e
theorem wrap_up (i : Nat) (h : i ≤ 4611686018427387904) : wrap64 ((i : Int) + 1) = ((i + 1 : Nat) : Int) := by
  unfold wrap64; omega
theorem wrap_dn (i : Nat) (h0 : 1 ≤ i) (h : i ≤ 4611686018427387904) : wrap64 ((i : Int) - 1) = ((i - 1 : Nat) : Int) := by
  unfold wrap64; omega
end Go.Proofs.Ytcgglamgemgeiaa.Q
/- RefUtf -/
namespace Go.Proofs.Ytcgglamgemgeiaa.Q
open Go.RowKit Go.Lib Go.Proofs.YtcgglamgemgeiaaW.PrintWords Go.Proofs.YtcgglamgemgeiaaW.PrintLast
/-- The unit at a place, without its flag. -/
def uAt (s : ByteArray) (p : Nat) : S56 := ⟨((Utf8.decode s p).1 : Int), (p : Int), ((Utf8.decode s p).2 : Int), false⟩
def uOpen (s : ByteArray) (p : Nat) : S56 := ⟨((Utf8.decode s p).1 : Int), (p : Int), 0, false⟩
def okS (u : S56) : Bool := if u.f0 = 65533 then u.f2 == 3 else true
def setOK (u : S56) : S56 := ⟨u.f0, u.f1, u.f2, okS u⟩
/-- m: the units from a place on. -/
inductive UL (s : ByteArray) : Nat → List S56 → Prop
  | nil {pos : Nat} : ¬ pos < s.size → UL s pos []
  | cons {pos : Nat} {m : List S56} : pos < s.size → UL s (pos + (Utf8.decode s pos).2) m → UL s pos (uAt s pos :: m)
theorem UL.exists (s : ByteArray) : ∀ d pos : Nat, s.size ≤ pos + d → ∃ m, UL s pos m := by
  intro d
  induction d with
  | zero => intro pos h; exact ⟨[], .nil (by omega)⟩
  | succ d ih =>
    intro pos h
    by_cases hp : pos < s.size
    · have := width_pos s pos
      obtain ⟨m, hm⟩ := ih (pos + (Utf8.decode s pos).2) (by omega)
      exact ⟨_, .cons hp hm⟩
    · exact ⟨[], .nil hp⟩
theorem UL.len {s : ByteArray} {pos : Nat} {m : List S56} (h : UL s pos m) : pos ≤ s.size → m.length + pos ≤ s.size := by
  induction h with
  | nil h => intro h'; simp; omega
  | cons h _ ih =>
    intro h'
    have := width_pos s ‹Nat›
    rename_i pos m _
    have h1 := width_pos s pos
    have h2 := width_le s pos h
    have := ih h2
    simp only [List.length_cons]; omega
theorem okS_u (s : ByteArray) (p : Nat) : okS (uAt s p) = okU s p := by
  have h := unit_valid_f s p
  unfold codepoint_unit_valid.f at h
  unfold okS uAt
  simp only
  by_cases h1 : ((Utf8.decode s p).1 : Int) = 65533
  · rw [if_pos h1] at h ⊢
    exact Option.some.inj h
  · rw [if_neg h1] at h ⊢
    exact Option.some.inj h
theorem UL.ok {s : ByteArray} {pos : Nat} {m : List S56} (h : UL s pos m) : m.all okS = validD (s.data.toList.drop pos) := by
  induction h with
  | nil h => rw [drop_end s _ h, validD_nil]; rfl
  | cons h _ ih => rw [List.all_cons, okS_u, ih, valid_step_at s _ h]
theorem rdT (l : List S56) (i : Nat) (h : i < l.length) : rd_T56 l (i : Int) = l[i] := by
  unfold rd_T56; rw [Int.toNat_natCast, List.getD_eq_getElem?_getD, List.getElem?_eq_getElem h]; rfl
theorem units_l1 (l : List S56) (hl : l.length ≤ 1073741824) : ∀ (d i : Nat), i + d = l.length →
    Ev (fun k => corporaref01_Units.l1 k ((l.take i).map setOK ++ l.drop i) (l.length : Int) (i : Int)) (l.map setOK) := by
  intro d
  induction d with
  | zero =>
    intro i hd
    refine Ev.step (fun k => by rw [corporaref01_Units.l1]) (ev_neg (by omega) (ev_now ?_))
    rw [List.take_of_length_le (by omega), List.drop_eq_nil_of_le (by omega), List.append_nil]
  | succ d ih =>
    intro i hd
    have hi : i < l.length := by omega
    have hx : i < ((l.take i).map setOK ++ l.drop i).length := by rw [List.length_append, List.length_map, List.length_take, List.length_drop]; omega
    have hg : ((l.take i).map setOK ++ l.drop i)[i] = l[i] := by
      have hti : ((l.take i).map setOK).length = i := by rw [List.length_map, List.length_take]; omega
      rw [List.getElem_append_right (by omega), List.getElem_drop]
      simp only [hti, Nat.sub_self, Nat.add_zero]
    have hs : ∀ u : S56, u = setOK l[i] → ((l.take i).map setOK ++ l.drop i).set i u = (l.take (i + 1)).map setOK ++ l.drop (i + 1) := fun u hu => by
      have hti : ((l.take i).map setOK).length = i := by rw [List.length_map, List.length_take]; omega
      rw [List.set_append_right _ _ (by omega), hti, Nat.sub_self, List.drop_eq_getElem_cons hi, List.set_cons_zero, List.take_add_one, List.getElem?_eq_getElem hi, List.map_append, hu]
      simp
    refine Ev.step (fun k => by rw [corporaref01_Units.l1]) (ev_pos (by omega) (ev_pos (by omega) (ev_pos (by omega) ?_)))
    rw [rdT _ i hx, hg, wrap_up i (by omega), Int.toNat_natCast]
    by_cases h : l[i].f0 = 65533
    · refine ev_pos h ?_
      rw [hs _ (by unfold setOK okS; rw [if_pos h])]
      exact ih (i + 1) (by omega)
    · refine ev_neg h ?_
      rw [hs _ (by unfold setOK okS; rw [if_neg h])]
      exact ih (i + 1) (by omega)
theorem units_j1 (l : List S56) (hl : l.length ≤ 1073741824) : Ev (fun k => corporaref01_Units.j1 k l) (l.map setOK) := by
  refine Ev.step (fun k => by rw [corporaref01_Units.j1]) ?_
  have := units_l1 l hl l.length 0 (by omega)
  simpa using this
theorem set_last (l : List S56) (a b : S56) : (l ++ [a]).set l.length b = l ++ [b] := by
  rw [List.set_append_right _ _ (Nat.le_refl _), Nat.sub_self]; rfl
theorem rd_last (l : List S56) (a : S56) : rd_T56 (l ++ [a]) ((l.length : Nat) : Int) = a := by
  rw [rdT _ _ (by simp)]; simp
theorem units_l0 (s : ByteArray) (hsz : s.size ≤ 120) {pos : Nat} {m : List S56} (h : UL s pos m) : ∀ (p : Nat) (done : List S56), p < s.size → pos = p + (Utf8.decode s p).2 → done.length ≤ p →
    Ev (fun k => corporaref01_Units.l0 k s (done ++ [uOpen s p]) (pos : Int) (s.size : Int)) ((done ++ uAt s p :: m).map setOK) := by
  induction h with
  | nil hp =>
    intro p done hps hpos hd
    rename_i pos
    have hw := width_le s p hps
    refine Ev.step (fun k => by rw [corporaref01_Units.l0]) (ev_neg (by omega) ?_)
    have hlen : (done ++ [uOpen s p]).length = done.length + 1 := by simp
    rw [hlen, wrap_dn (done.length + 1) (by omega) (by omega), Nat.add_sub_cancel]
    refine ev_pos (by omega) (ev_pos (by omega) (ev_pos (by omega) ?_))
    rw [rd_last, Int.toNat_natCast, set_last]
    have e : wrap64 ((s.size : Int) - (uOpen s p).f1) = ((Utf8.decode s p).2 : Int) := by
      show wrap64 ((s.size : Int) - (p : Int)) = _
      unfold wrap64; omega
    rw [e]
    exact units_j1 (done ++ [uAt s p]) (by simp; omega)
  | cons hp hm ih =>
    intro p done hps hpos hd
    rename_i pos m
    have hw := width_le s p hps
    have hw1 := width_pos s p
    have hw2 := width_le s pos hp
    refine Ev.step (fun k => by rw [corporaref01_Units.l0]) (ev_pos (by omega) ?_)
    have hlen : (done ++ [uOpen s p]).length = done.length + 1 := by simp
    rw [hlen, wrap_dn (done.length + 1) (by omega) (by omega), Nat.add_sub_cancel]
    refine ev_pos (by omega) (ev_pos (by omega) (ev_pos (by omega) ?_))
    rw [rd_last, Int.toNat_natCast, set_last]
    have e : wrap64 ((pos : Int) - (uOpen s p).f1) = ((Utf8.decode s p).2 : Int) := by
      show wrap64 ((pos : Int) - (p : Int)) = _
      unfold wrap64; omega
    rw [e]
    refine ev_some (ev_pos ?_ ?_)
    · simp; omega
    have e2 : (pos : Int) + wd_ s (pos : Int) = ((pos + (Utf8.decode s pos).2 : Nat) : Int) := by unfold wd_; rw [Int.toNat_natCast]; omega
    have e3 : rn_ s (pos : Int) = ((Utf8.decode s pos).1 : Int) := by unfold rn_; rw [Int.toNat_natCast]
    rw [e2, e3]
    refine ev_eq (ih pos (done ++ [uAt s p]) hp rfl (by rw [List.length_append, List.length_singleton]; omega)) ?_
    simp
theorem units_ev (s : ByteArray) (hsz : s.size ≤ 120) {m : List S56} (h : UL s 0 m) : Ev (fun k => corporaref01_Units.f k s) (m.map setOK) := by
  unfold corporaref01_Units.f
  refine Ev.step (fun k => by rw [corporaref01_Units.l0]) ?_
  cases h with
  | nil hp =>
    refine ev_neg (by omega) (ev_neg (by simp) ?_)
    exact units_j1 [] (by simp)
  | cons hp hm =>
    refine ev_pos (by omega) (ev_neg (by simp) (ev_pos (by simp) ?_))
    have e2 : (0 : Int) + wd_ s 0 = ((0 + (Utf8.decode s 0).2 : Nat) : Int) := by unfold wd_; simp
    have e3 : rn_ s 0 = ((Utf8.decode s 0).1 : Int) := rfl
    rw [e2, e3]
    exact units_l0 s hsz hm 0 [] hp rfl (by simp)
theorem refValid_l0 (l : List S56) (hl : l.length ≤ 1073741824) : ∀ (d i : Nat), i + d = l.length → Ev (fun k => corporaref01_Valid.l0 k l (l.length : Int) (i : Int)) ((l.drop i).all (fun u => u.f3)) := by
  intro d
  induction d with
  | zero =>
    intro i hd
    refine Ev.step (fun k => by rw [corporaref01_Valid.l0]) (ev_neg (by omega) (ev_now ?_))
    rw [List.drop_eq_nil_of_le (by omega)]; rfl
  | succ d ih =>
    intro i hd
    have hi : i < l.length := by omega
    have hdr : l.drop i = l[i] :: l.drop (i + 1) := List.drop_eq_getElem_cons hi
    refine Ev.step (fun k => by rw [corporaref01_Valid.l0]) (ev_pos (by omega) (ev_pos (by omega) (ev_pos (by omega) ?_)))
    rw [rdT _ i hi, wrap_up i (by omega)]
    cases hf : l[i].f3 with
    | true =>
      refine ev_pos rfl (ev_eq (ih (i + 1) (by omega)) ?_)
      rw [hdr, List.all_cons, hf, Bool.true_and]
    | false =>
      refine ev_neg (by simp) (ev_now ?_)
      rw [hdr, List.all_cons, hf, Bool.false_and]
theorem refValid_ev (s : ByteArray) (hsz : s.size ≤ 120) : Ev (fun k => corporaref01_Valid.f k s) (validD s.data.toList) := by
  unfold corporaref01_Valid.f
  obtain ⟨m, hm⟩ := UL.exists s s.size 0 (by omega)
  refine Ev.bind (units_ev s hsz hm) ?_
  have hlen := hm.len (Nat.zero_le _)
  refine ev_eq (refValid_l0 (m.map setOK) (by rw [List.length_map]; omega) (m.map setOK).length 0 (by omega)) ?_
  rw [List.drop_zero, List.all_map]
  have := hm.ok
  rw [List.drop_zero] at this
  rw [← this]
  rfl
end Go.Proofs.Ytcgglamgemgeiaa.Q
/- FSpec -/
namespace Go.Proofs.Ytcgglamgemgeiaa.Q
open Go.Lib
def bl (s : ByteArray) : List UInt8 := s.data.toList
theorem bl_inj {a b : ByteArray} (h : bl a = bl b) : a = b := by
  cases a with | mk a => cases b with | mk b => cases a with | mk a => cases b with | mk b => simp [bl] at h; rw [h]
theorem toList_bl (s : ByteArray) : s.toList = bl s := toList_data s
theorem toList_eq_iff {a b : ByteArray} : a.toList = b.toList ↔ a = b := ⟨fun h => bl_inj (by rw [← toList_bl, ← toList_bl, h]), fun h => by rw [h]⟩
theorem bl_append (a b : ByteArray) : bl (a ++ b) = bl a ++ bl b := by simp [bl]
theorem bl_length (s : ByteArray) : (bl s).length = s.size := by rw [size_eq]; rfl
/-- The order of strings. -/
def lt (a b : ByteArray) : Bool := Op.bytesLess (bl a) (bl b)
theorem lt_eq (a b : ByteArray) : Op.bytesLess a.toList b.toList = lt a b := by rw [toList_bl, toList_bl]; rfl
theorem less_leq (x y : List UInt8) : (Op.bytesLess x y || x == y) = !(Op.bytesLess y x) := leq_bytes x y
theorem less_irrefl (x : List UInt8) : Op.bytesLess x x = false := by
  have h := leq_bytes x x
  cases hh : Op.bytesLess x x with
  | false => rfl
  | true => rw [hh] at h; simp at h
theorem less_asymm {x y : List UInt8} (h : Op.bytesLess x y = true) : Op.bytesLess y x = false := by
  have h2 := leq_bytes x y
  rw [h] at h2
  cases hh : Op.bytesLess y x with
  | false => rfl
  | true => rw [hh] at h2; simp at h2
theorem less_tri {x y : List UInt8} (h : Op.bytesLess x y = false) (h' : Op.bytesLess y x = false) : x = y := by
  have h2 := leq_bytes x y
  rw [h, h'] at h2
  simpa using h2
theorem less_trans : ∀ {x y z : List UInt8}, Op.bytesLess x y = true → Op.bytesLess y z = true → Op.bytesLess x z = true
  | _, [], _, h, _ => by simp [Op.bytesLess] at h
  | _, _ :: _, [], _, h => by simp [Op.bytesLess] at h
  | [], _ :: _, _ :: _, _, _ => rfl
  | a :: x, b :: y, c :: z, h, h' => by
    simp only [Op.bytesLess, Bool.or_eq_true, Bool.and_eq_true, decide_eq_true_eq, beq_iff_eq] at h h' ⊢
    rcases h with h | ⟨rfl, h⟩ <;> rcases h' with h' | ⟨rfl, h'⟩
    · exact .inl (UInt8.lt_iff_toNat_lt.2 (by have h1 := UInt8.lt_iff_toNat_lt.1 h; have h2 := UInt8.lt_iff_toNat_lt.1 h'; omega))
    · exact .inl h
    · exact .inl h'
    · exact .inr ⟨rfl, less_trans h h'⟩
theorem lt_irrefl (a : ByteArray) : lt a a = false := less_irrefl _
theorem lt_asymm {a b : ByteArray} (h : lt a b = true) : lt b a = false := less_asymm h
theorem lt_trans {a b c : ByteArray} (h : lt a b = true) (k : lt b c = true) : lt a c = true := less_trans h k
theorem lt_tri {a b : ByteArray} (h : lt a b = false) (k : lt b a = false) : a = b := bl_inj (less_tri h k)
theorem lt_ne {a b : ByteArray} (h : lt a b = true) : a ≠ b := fun e => by subst e; rw [lt_irrefl] at h; cases h
/-- Strictly ascending. -/
abbrev SS (l : List ByteArray) : Prop := l.Pairwise (fun a b => lt a b = true)
def srt : List ByteArray → Bool
  | [] => true
  | [_] => true
  | a :: b :: l => lt a b && srt (b :: l)
theorem srt_ss : ∀ {l : List ByteArray}, srt l = true → SS l
  | [], _ => List.Pairwise.nil
  | [_], _ => List.pairwise_singleton _ _
  | a :: b :: l, h => by
    rw [srt, Bool.and_eq_true] at h
    have ih := srt_ss h.2
    refine List.Pairwise.cons (fun x hx => ?_) ih
    rcases List.mem_cons.1 hx with rfl | hx
    · exact h.1
    · exact lt_trans h.1 ((List.pairwise_cons.1 ih).1 x hx)
theorem ss_srt : ∀ {l : List ByteArray}, SS l → srt l = true
  | [], _ => rfl
  | [_], _ => rfl
  | a :: b :: l, h => by
    rw [srt, Bool.and_eq_true]
    exact ⟨(List.pairwise_cons.1 h).1 b (by simp), ss_srt (List.pairwise_cons.1 h).2⟩
theorem ss_ext : ∀ {l m : List ByteArray}, SS l → SS m → (∀ x, x ∈ l ↔ x ∈ m) → l = m
  | [], [], _, _, _ => rfl
  | [], b :: m, _, _, h => by have := (h b).2 (by simp); simp at this
  | a :: l, [], _, _, h => by have := (h a).1 (by simp); simp at this
  | a :: l, b :: m, hl, hm, h => by
    have hl' := List.pairwise_cons.1 hl
    have hm' := List.pairwise_cons.1 hm
    have e : a = b := by
      rcases List.mem_cons.1 ((h a).1 (by simp)) with e | ha
      · exact e
      · rcases List.mem_cons.1 ((h b).2 (by simp)) with e | hb
        · exact e.symm
        · have h1 := hm'.1 a ha
          have h2 := hl'.1 b hb
          rw [lt_asymm h1] at h2; cases h2
    subst e
    have : l = m := ss_ext hl'.2 hm'.2 (fun x => by
      constructor
      · intro hx
        rcases List.mem_cons.1 ((h x).1 (List.mem_cons_of_mem _ hx)) with e | hx'
        · exact absurd e.symm (lt_ne (hl'.1 x hx))
        · exact hx'
      · intro hx
        rcases List.mem_cons.1 ((h x).2 (List.mem_cons_of_mem _ hx)) with e | hx'
        · exact absurd e.symm (lt_ne (hm'.1 x hx))
        · exact hx')
    rw [this]
/-- A list with one more string, put ahead of the first that is not smaller; a string that is there already is not put in again. -/
def insB : List ByteArray → ByteArray → List ByteArray
  | [], f => [f]
  | x :: l, f => if lt x f = true then x :: insB l f else if x = f then x :: l else f :: x :: l
theorem mem_insB {l : List ByteArray} {f x : ByteArray} : x ∈ insB l f ↔ x ∈ l ∨ x = f := by
  induction l with
  | nil => simp [insB]
  | cons a l ih =>
    rw [insB]
    by_cases h1 : lt a f = true
    · rw [if_pos h1, List.mem_cons, ih, List.mem_cons, or_assoc]
    · rw [if_neg h1]
      by_cases h2 : a = f
      · rw [if_pos h2, List.mem_cons]
        subst h2
        constructor
        · exact .inl
        · rintro (h | h)
          · exact h
          · exact .inl h
      · rw [if_neg h2, List.mem_cons, List.mem_cons, or_comm]
theorem ss_insB {l : List ByteArray} {f : ByteArray} (h : SS l) : SS (insB l f) := by
  induction l with
  | nil => exact List.pairwise_singleton _ _
  | cons a l ih =>
    have h' := List.pairwise_cons.1 h
    rw [insB]
    by_cases h1 : lt a f = true
    · rw [if_pos h1]
      refine List.Pairwise.cons (fun x hx => ?_) (ih h'.2)
      rcases mem_insB.1 hx with hx | rfl
      · exact h'.1 x hx
      · exact h1
    · rw [if_neg h1]
      by_cases h2 : a = f
      · rw [if_pos h2]; exact h
      · rw [if_neg h2]
        have h3 : lt f a = true := by
          cases hh : lt f a with
          | true => rfl
          | false => exact absurd (lt_tri (by simpa using h1) hh) h2
        refine List.Pairwise.cons (fun x hx => ?_) h
        rcases List.mem_cons.1 hx with rfl | hx
        · exact h3
        · exact lt_trans h3 (h'.1 x hx)
theorem insB_length (l : List ByteArray) (f : ByteArray) : (insB l f).length ≤ l.length + 1 := by
  induction l with
  | nil => simp [insB]
  | cons a l ih =>
    rw [insB]
    split
    · simp only [List.length_cons]; omega
    · split <;> simp only [List.length_cons] <;> omega
/-- The sorted list of a list's elements. -/
def nrmF (acc : List ByteArray) (m : List ByteArray) : List ByteArray := m.foldl insB acc
def nrm (m : List ByteArray) : List ByteArray := nrmF [] m
theorem nrmF_ss : ∀ (m acc : List ByteArray), SS acc → SS (nrmF acc m)
  | [], _, h => h
  | f :: m, acc, h => nrmF_ss m (insB acc f) (ss_insB h)
theorem nrmF_mem : ∀ (m acc : List ByteArray) (x : ByteArray), x ∈ nrmF acc m ↔ x ∈ acc ∨ x ∈ m
  | [], acc, x => by simp [nrmF]
  | f :: m, acc, x => by
    show x ∈ nrmF (insB acc f) m ↔ _
    rw [nrmF_mem m, mem_insB, List.mem_cons, or_assoc]
theorem nrm_ss (m : List ByteArray) : SS (nrm m) := nrmF_ss m [] List.Pairwise.nil
theorem nrm_mem (m : List ByteArray) (x : ByteArray) : x ∈ nrm m ↔ x ∈ m := by rw [nrm, nrmF_mem]; simp
theorem nrm_of_ss {l m : List ByteArray} (h : SS l) (hm : ∀ x, x ∈ m ↔ x ∈ l) : nrm m = l := ss_ext (nrm_ss m) h (fun x => by rw [nrm_mem, hm])
theorem nrm_congr {l m : List ByteArray} (hm : ∀ x, x ∈ m ↔ x ∈ l) : nrm m = nrm l := nrm_of_ss (nrm_ss l) (fun x => by rw [hm, nrm_mem])

/-! ### texts -/
def tailT : List ByteArray → List UInt8
  | [] => []
  | f :: l => bl f ++ 124 :: tailT l
/-- The text of a list of features. -/
def text (l : List ByteArray) : ByteArray := ⟨(124 :: tailT l).toArray⟩
theorem bl_text (l : List ByteArray) : bl (text l) = 124 :: tailT l := by simp [bl, text]
/-- A feature. -/
def Feat (f : ByteArray) : Prop := vv f = 0 ∧ bl f ≠ [] ∧ (124 : UInt8) ∉ bl f
theorem vv_zero {s : ByteArray} : vv s = 0 ↔ s.size ≤ 120 ∧ validD (bl s) = true ∧ (bl s).any badB = false := by
  unfold vv bl
  by_cases h1 : 120 < s.size
  · rw [if_pos h1]; constructor
    · intro h; cases h
    · rintro ⟨h, _⟩; omega
  · rw [if_neg h1]
    cases h2 : validD s.data.toList with
    | false => simp
    | true =>
      cases h3 : s.data.toList.any badB with
      | true => simp
      | false => simp; omega
/-- The pieces between separators; none: a piece is empty. -/
def spl : List UInt8 → List UInt8 → Option (List (List UInt8))
  | [], _ => some []
  | b :: r, cur => if b = 124 then (if cur = [] then none else (spl r []).map (cur :: ·)) else spl r (cur ++ [b])
def mkB (l : List UInt8) : ByteArray := ⟨l.toArray⟩
theorem bl_mkB (l : List UInt8) : bl (mkB l) = l := by simp [bl, mkB]
theorem mkB_bl (s : ByteArray) : mkB (bl s) = s := bl_inj (bl_mkB _)
/-- What spl finds. -/
theorem spl_some : ∀ (r cur : List UInt8) (l : List (List UInt8)), (124 : UInt8) ∉ cur → (r = [] → cur = []) → (r ≠ [] → r.getLast? = some 124) → spl r cur = some l →
    cur ++ r = tailT (l.map mkB) ∧ ∀ f ∈ l, f ≠ [] ∧ (124 : UInt8) ∉ f
  | [], cur, l, _, h, _, hs => by
    rw [h rfl]
    simp only [spl] at hs
    obtain rfl := Option.some.inj hs
    exact ⟨rfl, fun f hf => by simp at hf⟩
  | b :: r, cur, l, hc, _, hl, hs => by
    rw [spl] at hs
    by_cases hb : b = 124
    · rw [if_pos hb] at hs
      by_cases hcur : cur = []
      · rw [if_pos hcur] at hs; cases hs
      · rw [if_neg hcur] at hs
        obtain ⟨l', hl', rfl⟩ := Option.map_eq_some_iff.1 hs
        have ih := spl_some r [] l' (by simp) (fun _ => rfl) (fun hr => by
          have := hl (by simp)
          rw [List.getLast?_cons_of_ne_nil hr] at this
          exact this) hl'
        subst hb
        refine ⟨?_, fun f hf => ?_⟩
        · rw [List.map_cons, tailT, bl_mkB, ← ih.1, List.nil_append]
        · rcases List.mem_cons.1 hf with rfl | hf
          · exact ⟨hcur, hc⟩
          · exact ih.2 f hf
    · rw [if_neg hb] at hs
      have hr : r ≠ [] := fun hr => by
        subst hr
        have := hl (by simp)
        simp at this
        exact hb this
      have ih := spl_some r (cur ++ [b]) l (by simp; exact ⟨hc, fun h => hb h.symm⟩) (fun h => absurd h hr) (fun hr => by
          have := hl (by simp)
          rw [List.getLast?_cons_of_ne_nil hr] at this
          exact this) hs
      refine ⟨?_, ih.2⟩
      rw [← ih.1]; simp
theorem spl_word : ∀ (f cur r : List UInt8), (124 : UInt8) ∉ f → spl (f ++ r) cur = spl r (cur ++ f)
  | [], cur, r, _ => by simp
  | b :: f, cur, r, h => by
    have hb : b ≠ 124 := fun e => h (by rw [e]; simp)
    rw [List.cons_append, spl, if_neg hb, spl_word f _ r (fun hf => h (List.mem_cons_of_mem _ hf))]
    simp
theorem spl_tail : ∀ (l : List ByteArray), (∀ f ∈ l, bl f ≠ [] ∧ (124 : UInt8) ∉ bl f) → spl (tailT l) [] = some (l.map bl)
  | [], _ => rfl
  | f :: l, h => by
    have hf := h f (by simp)
    rw [tailT, spl_word _ _ _ hf.2, List.nil_append, spl, if_pos rfl, if_neg hf.1, spl_tail l (fun g hg => h g (List.mem_cons_of_mem _ hg))]
    rfl
theorem tail_last : ∀ (l : List ByteArray), tailT l ≠ [] → (tailT l).getLast? = some 124
  | [], h => absurd rfl h
  | f :: l, _ => by
    rw [tailT]
    by_cases hl : tailT l = []
    · rw [hl]; simp
    · rw [List.getLast?_append, List.getLast?_cons_of_ne_nil hl, tail_last l hl]; rfl
/-- The answer of Parse. -/
def PR (s : ByteArray) : List ByteArray × Int :=
  if vv s ≠ 0 then ([], vv s) else if (bl s).head? ≠ some 124 ∨ (bl s).getLast? ≠ some 124 then ([], 3) else
    match spl (bl s).tail [] with
    | none => ([], 3)
    | some l => if srt (l.map mkB) = true then (l.map mkB, 0) else ([], 6)
theorem validD_tail : ∀ (l : List ByteArray), validD (tailT l) = true ↔ ∀ f ∈ l, validD (bl f) = true
  | [] => by simp [tailT, validD_nil]
  | f :: l => by
    rw [tailT, validD_cut _ 124 (by decide) _ _ (Nat.le_refl _), Bool.and_eq_true, validD_tail l]
    simp
theorem bad_tail : ∀ (l : List ByteArray), (tailT l).any badB = false ↔ ∀ f ∈ l, (bl f).any badB = false
  | [] => by simp [tailT]
  | f :: l => by
    have hb : badB 124 = false := by decide
    rw [tailT, List.any_append, List.any_cons, hb, Bool.false_or, Bool.or_eq_false_iff, bad_tail l]
    constructor
    · rintro ⟨h1, h2⟩ g hg
      rcases List.mem_cons.1 hg with rfl | hg
      · exact h1
      · exact h2 g hg
    · intro h
      exact ⟨h f (by simp), fun g hg => h g (List.mem_cons_of_mem _ hg)⟩
theorem size_text (l : List ByteArray) : (text l).size = 1 + (tailT l).length := by rw [← bl_length, bl_text, List.length_cons]; omega
theorem size_mem : ∀ (l : List ByteArray) (f : ByteArray), f ∈ l → f.size + 1 ≤ (tailT l).length
  | [], f, h => by simp at h
  | g :: l, f, h => by
    rw [tailT, List.length_append, List.length_cons, bl_length]
    rcases List.mem_cons.1 h with rfl | h
    · omega
    · have := size_mem l f h; omega
theorem len_tail : ∀ (l : List ByteArray), l.length ≤ (tailT l).length
  | [] => by simp
  | g :: l => by
    have := len_tail l
    rw [tailT, List.length_append, List.length_cons, List.length_cons]; omega
theorem validD_text (l : List ByteArray) : validD (bl (text l)) = true ↔ ∀ f ∈ l, validD (bl f) = true := by
  rw [bl_text, validD_cons 124 _ (by decide), validD_tail]
theorem bad_text (l : List ByteArray) : (bl (text l)).any badB = false ↔ ∀ f ∈ l, (bl f).any badB = false := by
  have hb : badB 124 = false := by decide
  rw [bl_text, List.any_cons, hb, Bool.false_or, bad_tail]
/-- A text of features is a value, where it is short enough. -/
theorem vv_text {l : List ByteArray} (h : ∀ f ∈ l, Feat f) (hs : (text l).size ≤ 120) : vv (text l) = 0 :=
  vv_zero.2 ⟨hs, (validD_text l).2 (fun f hf => (vv_zero.1 (h f hf).1).2.1), (bad_text l).2 (fun f hf => (vv_zero.1 (h f hf).1).2.2)⟩
/-- Where Parse finds features: the string is their text. -/
theorem PR_ok {s : ByteArray} {l : List ByteArray} (h : PR s = (l, 0)) : s = text l ∧ SS l ∧ (∀ f ∈ l, Feat f) ∧ s.size ≤ 120 := by
  unfold PR at h
  by_cases h1 : vv s ≠ 0
  · rw [if_pos h1] at h; injection h with _ h; exact absurd h h1
  · rw [if_neg h1] at h
    have h1' : vv s = 0 := by simpa using h1
    by_cases h2 : (bl s).head? ≠ some 124 ∨ (bl s).getLast? ≠ some 124
    · rw [if_pos h2] at h; injection h with _ h; cases h
    · rw [if_neg h2] at h
      have h3 : (bl s).head? = some 124 := by
        cases hh : (bl s).head? with
        | none => exact absurd (.inl (by rw [hh]; simp)) h2
        | some x => exact Classical.byContradiction (fun hx => h2 (.inl (by rw [hh]; exact hx)))
      have h4 : (bl s).getLast? = some 124 := Classical.byContradiction (fun hx => h2 (.inr hx))
      cases hb : bl s with
      | nil => rw [hb] at h3; cases h3
      | cons b r =>
        rw [hb] at h h3 h4
        simp at h3
        subst h3
        simp only [List.tail_cons] at h
        cases hsp : spl r [] with
        | none => rw [hsp] at h; simp at h
        | some m =>
          rw [hsp] at h
          simp only at h
          have key := spl_some r [] m (by simp) (fun _ => rfl) (fun hr => by rw [List.getLast?_cons_of_ne_nil hr] at h4; exact h4) hsp
          by_cases h5 : srt (m.map mkB) = true
          · rw [if_pos h5] at h
            injection h with h6 _
            subst h6
            have e : s = text (m.map mkB) := bl_inj (by rw [hb, bl_text, ← key.1]; rfl)
            have hz := vv_zero.1 h1'
            refine ⟨e, srt_ss h5, fun f hf => ?_, hz.1⟩
            have hz2 := hz
            rw [e] at hz2
            have v1 := (validD_text _).1 hz2.2.1 f hf
            have v2 := (bad_text _).1 hz2.2.2 f hf
            obtain ⟨g, hg, rfl⟩ := List.mem_map.1 hf
            have hsz := size_mem _ _ hf
            have := size_text (m.map mkB)
            refine ⟨vv_zero.2 ⟨by have := hz2.1; omega, v1, v2⟩, by rw [bl_mkB]; exact (key.2 g hg).1, by rw [bl_mkB]; exact (key.2 g hg).2⟩
          · rw [if_neg h5] at h; injection h with _ h; cases h
/-- Parse finds the features of a text again. -/
theorem PR_text {l : List ByteArray} (hs : SS l) (h : ∀ f ∈ l, Feat f) (hz : (text l).size ≤ 120) : PR (text l) = (l, 0) := by
  unfold PR
  rw [if_neg (by rw [vv_text h hz]; simp), bl_text]
  have hlast : (124 :: tailT l).getLast? = some 124 := by
    by_cases hl : tailT l = []
    · rw [hl]; rfl
    · rw [List.getLast?_cons_of_ne_nil hl]; exact tail_last l hl
  rw [if_neg (by rw [hlast]; simp)]
  have e : (l.map bl).map mkB = l := by
    rw [List.map_map]
    conv => rhs; rw [← List.map_id l]
    exact List.map_congr_left (fun x _ => mkB_bl x)
  simp only [List.tail_cons]
  rw [spl_tail l (fun f hf => ⟨(h f hf).2.1, (h f hf).2.2⟩)]
  simp only
  rw [e, if_pos (ss_srt hs)]
/-- Whether Parse finds features is told by its error alone. -/
theorem PR_eta {s : ByteArray} (h : (PR s).2 = 0) : PR s = ((PR s).1, 0) := by rw [← h]
theorem PR_err {s : ByteArray} (h : (PR s).2 ≠ 0) : (PR s).1 = [] := by
  unfold PR at h ⊢
  split
  · rfl
  · split
    · rfl
    · rename_i h1 h2
      rw [if_neg h1, if_neg h2] at h
      split
      · rfl
      · split
        · rename_i hh hs
          simp only [hh, hs, if_true] at h
          exact absurd rfl h
        · rfl
/-! ### Format -/
def fmGo : List ByteArray → List ByteArray → List ByteArray × Int
  | [], acc => (acc, 0)
  | f :: r, acc => if vv f ≠ 0 then ([], vv f) else if bl f = [] ∨ (124 : UInt8) ∈ bl f then ([], 3) else fmGo r (insB acc f)
/-- The answer of Format. -/
def FM (m : List ByteArray) : ByteArray × Int := if (fmGo m []).2 ≠ 0 then (⟨#[]⟩, (fmGo m []).2) else if 120 < (text (fmGo m []).1).size then (⟨#[]⟩, 2) else (text (fmGo m []).1, 0)
theorem fmGo_feat : ∀ (m acc : List ByteArray), (∀ f ∈ m, Feat f) → fmGo m acc = (nrmF acc m, 0)
  | [], _, _ => rfl
  | f :: m, acc, h => by
    have hf := h f (by simp)
    rw [fmGo, if_neg (by rw [hf.1]; simp), if_neg (by rintro (h1 | h1); exact hf.2.1 h1; exact hf.2.2 h1), fmGo_feat m _ (fun g hg => h g (List.mem_cons_of_mem _ hg))]
    rfl
/-- Format of features. -/
theorem FM_feat {m : List ByteArray} (h : ∀ f ∈ m, Feat f) : FM m = if 120 < (text (nrm m)).size then (⟨#[]⟩, 2) else (text (nrm m), 0) := by
  unfold FM
  rw [fmGo_feat m [] h, if_neg (by simp)]
  rfl
/-! ### the operations -/
def memb (l : List ByteArray) (f : ByteArray) : Bool := l.any (fun x => decide (x = f))
theorem memb_iff {l : List ByteArray} {f : ByteArray} : memb l f = true ↔ f ∈ l := by
  unfold memb
  rw [List.any_eq_true]
  constructor
  · rintro ⟨x, hx, h⟩
    rw [← of_decide_eq_true h]; exact hx
  · exact fun h => ⟨f, h, decide_eq_true rfl⟩
def UN (a b : ByteArray) : ByteArray × Int := if (PR a).2 ≠ 0 then (⟨#[]⟩, (PR a).2) else if (PR b).2 ≠ 0 then (⟨#[]⟩, (PR b).2) else FM ((PR a).1 ++ (PR b).1)
def IS (a b : ByteArray) : ByteArray × Int := if (PR a).2 ≠ 0 then (⟨#[]⟩, (PR a).2) else if (PR b).2 ≠ 0 then (⟨#[]⟩, (PR b).2) else (text ((PR a).1.filter (memb (PR b).1)), 0)
def SB (a b : ByteArray) : Bool × Int := if (PR a).2 ≠ 0 then (false, (PR a).2) else if (PR b).2 ≠ 0 then (false, (PR b).2) else ((PR a).1.all (memb (PR b).1), 0)
def HS (s f : ByteArray) : Bool := decide ((PR s).2 = 0) && memb (PR s).1 f
end Go.Proofs.Ytcgglamgemgeiaa.Q
/- RefValue -/
namespace Go.Proofs.Ytcgglamgemgeiaa.Q
open Go.RowKit Go.Lib Go.Proofs.YtcgglamgemgeiaaW.PrintWords Go.Proofs.YtcgglamgemgeiaaW.PrintLast
theorem rd_bytes {s : ByteArray} {i : Nat} (h : i < (bl s).length) : rd (bytesOf s) (i : Int) = ((bl s)[i].toNat : Int) := by
  have h' : i < s.size := by rw [← bl_length]; exact h
  rw [rd_bytesOf]
  unfold bt
  rw [dif_pos (by rw [Int.toNat_natCast]; exact h')]
  rfl
set_option maxRecDepth 100000 in
set_option maxHeartbeats 4000000 in
theorem refValue_calls (s : ByteArray) (w : World) :
    Calls Try.prog 27 #[.string s] w fun e w' => e = .returned (.int .i64 (vv s)) ∧ Below w.heap.size w w' := by
  have HB := Below.refl w.heap.size w
  by_cases h1 : 120 < s.size
  · have h1b : decide ((120 : Int) < (s.size : Int)) = true := decide_eq_true (by omega)
    have hv : vv s = 2 := by unfold vv; rw [if_pos h1]
    go_enter Try.func27, Try.ntmps27
    go_wp2
    go_ret
    exact ⟨by rw [hv]; rfl, HB⟩
  · have h1b : decide ((120 : Int) < (s.size : Int)) = false := decide_eq_false (by omega)
    have hs : s.size ≤ 9223372036854775807 := by omega
    obtain ⟨k, hf⟩ := (refValid_ev s (by omega)).rounds
    cases hvd : validD s.data.toList with
    | false =>
      have hv : vv s = 7 := by unfold vv; rw [if_neg h1, if_pos hvd]
      rw [hvd] at hf
      go_enter Try.func27, Try.ntmps27
      go_wp2_with (go_at_call 37; refine (corporaref01_Valid.calls _ _ _ _ hf).mono ?_; rintro e w' ⟨rfl, hb⟩)
      go_ret
      exact ⟨by rw [hv]; rfl, hb⟩
    | true =>
      have hv : vv s = if s.data.toList.any badB = true then 14 else 0 := by unfold vv; rw [if_neg h1, if_neg (by simp [hvd])]
      rw [hvd] at hf
      go_enter Try.func27, Try.ntmps27
      go_wp2_with (first | (go_at_call 37; refine (corporaref01_Valid.calls _ _ _ _ hf).mono ?_; rintro e w1 ⟨rfl, hb⟩) | (refine R_conv (w0 := w) w.heap.size 5 ?hg 9 42 (.tmp 11) rfl s ?hx Try.underlying9 Try.underlying42 Try.underlying5 ?hB ?hS ?hM ?_; (case hg => rfl); (case hx => rfl); (case hB => exact hb); (case hS => exact hb.size); (case hM => exact hs); intro A14_ c14_ w2 hC_ hl_ hb0_ hb2_))
      have hlen := bytesOf_length s
      go_loopw [4, 14] (fun (_ v14 : Value) wr => ∃ i : Nat, v14 = .int .i64 (i : Int) ∧ wr = w2 ∧ s.data.toList.any badB = (s.data.toList.drop i).any badB) (fun _ v14 _ => s.size - ixOf v14)
      case atStart => exact ⟨0, rfl, rfl, rfl⟩
      case round =>
        obtain ⟨i, rfl, rfl, hbad⟩ := hrel
        by_cases hi : i < s.size
        · have hi' : i < (bl s).length := by rw [bl_length]; exact hi
          have hc1 : decide ((i : Int) < ((bytesOf s).length : Int)) = true := decide_eq_true (by omega)
          have p0 : (0 : Int) ≤ (i : Int) := by omega
          have q0 : (i : Int) < ((bytesOf s).length : Int) := by omega
          obtain ⟨ad, rfl, hx0⟩ := Kd.at_int hC_ (i : Int) p0 q0
          rw [rd_bytes hi', Int.toNat_natCast] at hx0
          have hdr : s.data.toList.drop i = (bl s)[i] :: s.data.toList.drop (i + 1) := List.drop_eq_getElem_cons hi'
          rw [hdr, List.any_cons] at hbad
          obtain ⟨b, hb8⟩ : ∃ b, (bl s)[i] = b := ⟨_, rfl⟩
          rw [hb8] at hx0 hbad
          clear hdr hb8
          have hblt := b.toNat_lt
          have hw : wrap64 ((i : Int) + 1) = ((i + 1 : Nat) : Int) := wrap_up i (by omega)
          by_cases k1 : b.toNat < 32
          · have k1b : decide ((b.toNat : Int) < 32) = true := decide_eq_true (by omega)
            have hv14 : vv s = 14 := by rw [hv, hbad]; simp [badB]; omega
            go_wp2
            go_ret
            exact ⟨by rw [hv14]; rfl, hb0_⟩
          · have k1b : decide ((b.toNat : Int) < 32) = false := decide_eq_false (by omega)
            by_cases k2 : b.toNat = 127
            · have k2b : ((b.toNat : Int) == 127) = true := beq_iff_eq.2 (by omega)
              have hv14 : vv s = 14 := by rw [hv, hbad]; simp [badB, k2]
              go_wp2
              go_ret
              exact ⟨by rw [hv14]; rfl, hb0_⟩
            · have k2b : ((b.toNat : Int) == 127) = false := beq_eq_false_iff_ne.2 (by omega)
              have hbb : badB b = false := by unfold badB; simp; omega
              rw [hbb, Bool.false_or] at hbad
              clear hv
              go_wp2
              go_roundw
              case rel => exact ⟨i + 1, by simp, by simp, hbad⟩
              case measure => simp [ixOf]; omega
        · have hc1 : decide ((i : Int) < ((bytesOf s).length : Int)) = false := decide_eq_false (by omega)
          have hv0 : vv s = 0 := by rw [hv, hbad, drop_end s i hi]; rfl
          go_wp2
          go_ret
          exact ⟨by rw [hv0]; rfl, hb0_⟩
end Go.Proofs.Ytcgglamgemgeiaa.Q
/- FCorporaref04ValidValue -/
namespace Go.Proofs.Ytcgglamgemgeiaa.Q
open Go.RowKit Go.Proofs.YtcgglamgemgeiaaW.PrintWords Go.Proofs.YtcgglamgemgeiaaW.PrintLast Go.Proofs.YtcgglamgemgeiaaW.PrintMore
attribute [local go_sem] max2_int min2_int max_two min_two max_three min_three max_four min_four   -- for this text's walks alone
set_option linter.unusedVariables false
set_option linter.unusedSimpArgs false

/-! ### corporaref04_ValidValue: function 27 -/
def corporaref04_ValidValue.f (a0 : ByteArray) : Option (Int) := some (vv a0)
theorem corporaref04_ValidValue.calls (a0 : ByteArray) (r : Int) (w : World) (h : corporaref04_ValidValue.f a0 = some r) :
    Calls Try.prog 27 #[.string a0] w fun e w' => e = .returned (.int .i64 r) ∧ Below w.heap.size w w' := by
  obtain rfl := Option.some.inj h
  exact refValue_calls a0 w

end Go.Proofs.Ytcgglamgemgeiaa.Q
/- InsAid -/
namespace Go.Proofs.Ytcgglamgemgeiaa.Q
open Go.RowKit Go.Lib Go.Proofs.YtcgglamgemgeiaaW.PrintWords Go.Proofs.YtcgglamgemgeiaaW.PrintLast
theorem rd_nat {l : List ByteArray} {i : Nat} (h : i < l.length) : rdOf ByteArray.empty l (i : Int) = l[i] := by
  unfold rdOf; rw [Int.toNat_natCast, List.getD_eq_getElem?_getD, List.getElem?_eq_getElem h]; rfl
theorem insB_at (f : ByteArray) : ∀ (l : List ByteArray) (i : Nat), i ≤ l.length → (∀ x ∈ l.take i, lt x f = true) → (∀ h : i < l.length, lt l[i] f = false) →
    insB l f = if h : i < l.length then (if l[i] = f then l else l.take i ++ f :: l.drop i) else l.take i ++ f :: l.drop i
  | [], i, hi, _, _ => by
    obtain rfl : i = 0 := by simpa using hi
    simp [insB]
  | a :: l, 0, _, _, h => by
    have h0 := h (by simp)
    simp only [List.getElem_cons_zero] at h0
    rw [insB, if_neg (by rw [h0]; simp), dif_pos (by simp)]
    simp
  | a :: l, i + 1, hi, ht, h => by
    have ha := ht a (by simp)
    have ih := insB_at f l i (by simpa using hi) (fun x hx => ht x (by simp [hx])) (fun h' => by have := h (by simpa using h'); simpa using this)
    rw [insB, if_pos ha, ih]
    by_cases h' : i < l.length
    · rw [dif_pos h', dif_pos (by simpa using h')]
      simp only [List.getElem_cons_succ]
      split <;> simp
    · rw [dif_neg h', dif_neg (by simpa using h')]
      simp
end Go.Proofs.Ytcgglamgemgeiaa.Q
/- RefInsert -/
namespace Go.Proofs.Ytcgglamgemgeiaa.Q
open Go.RowKit Go.Lib Go.Proofs.YtcgglamgemgeiaaW.PrintWords Go.Proofs.YtcgglamgemgeiaaW.PrintLast
theorem lit_reps (w : World) (base : Nat) (ok : Nat → Prop) (s : ByteArray) : Reps ((Kd.string).M w base ok) (Kd.string).sz [s] [.string s] := by
  exact Reps.one (by rfl) (Reps.none _ _)
set_option maxHeartbeats 8000000 in
set_option maxRecDepth 100000 in
theorem refInsert_calls (P0_ : Nat → Prop) (u9000_ : Value) (l0 : List ByteArray) (a1 : ByteArray) (w0 w : World) (hB : Below w0.heap.size w0 w) (ho0 : Kd.R Kd.string 9 w w0.heap.size P0_ u9000_ l0) (hl : l0.length < 8796093022207) :
    Calls Try.prog 31 #[u9000_, .string a1] w fun e w' => ∃ v0_ : Value, e = .returned (v0_) ∧ Kd.R Kd.string 9 w' w0.heap.size (fun k_ => (P0_ k_ ∨ w.heap.size ≤ k_)) v0_ (insB l0 a1) ∧ Below w0.heap.size w0 w' ∧ Kept w w' (fun k_ => P0_ k_) := by
  obtain ⟨Ao, co, rfl⟩ := Kd.R_slice ho0
  have hC := (Kd.R_reads' ho0).2.2
  have hco := (Kd.R_reads' ho0).2.1
  go_enter Try.func31, Try.ntmps31
  go_wp2
  go_loopw [5] (fun (v5 : Value) wr => ∃ i : Nat, v5 = .int .i64 (i : Int) ∧ w = wr ∧ i ≤ l0.length ∧ (∀ x ∈ l0.take i, lt x a1 = true)) (fun v5 _ => l0.length - ixOf v5)
  case atStart => exact ⟨0, rfl, rfl, Nat.zero_le _, by simp⟩
  case round =>
    obtain ⟨i, rfl, rfl, hi, hlt⟩ := hrel
    go_upto_region 2 with (fail)
    repeat (go_quiet (fail); go_upto_region 2 with (fail))
    go_cut [17] (fun v17 wc => ∃ b : Bool, v17 = .bool b ∧ w = wc ∧ (b = true → ∃ h : i < l0.length, lt l0[i] a1 = true) ∧ (b = false → ∀ h : i < l0.length, lt l0[i] a1 = false))
    case first =>
      by_cases h1 : i < l0.length
      · have h1b : decide ((i : Int) < (l0.length : Int)) = true := decide_eq_true (by omega)
        have p0 : (0 : Int) ≤ (i : Int) := by omega
        have q0 : (i : Int) < (l0.length : Int) := by omega
        obtain ⟨ad, rfl, hx0⟩ := Kd.at_string hC (i : Int) p0 q0
        rw [rd_nat h1, Int.toNat_natCast] at hx0
        go_wp2
        repeat (go_quiet (fail); try go_wp2)
        go_meet
        case rel =>
          refine ⟨lt l0[i] a1, by rw [← lt_eq], rfl, fun h => ⟨h1, h⟩, fun h _ => h⟩
      · have h1b : decide ((i : Int) < (l0.length : Int)) = false := decide_eq_false (by omega)
        go_wp2
        repeat (go_quiet (fail); try go_wp2)
        go_meet
        case rel => exact ⟨false, rfl, rfl, (fun h => by cases h), fun _ h => absurd h h1⟩
    case rest =>
      obtain ⟨b, rfl, rfl, hb1, hb2⟩ := hcut
      cases b with
      | true =>
        obtain ⟨h1, h2⟩ := hb1 rfl
        clear hb1 hb2
        go_wp2
        go_roundw
        case rel =>
          refine ⟨i + 1, by simp, by simp, by omega, fun x hx => ?_⟩
          rw [List.take_add_one, List.getElem?_eq_getElem h1, List.mem_append] at hx
          rcases hx with hx | hx
          · exact hlt x hx
          · simp at hx; rw [hx]; exact h2
        case measure => simp [ixOf]; omega
      | false =>
        have hge := hb2 rfl
        clear hb1 hb2
        go_upto_region 4 with (fail)
        repeat (go_quiet (fail); go_upto_region 4 with (fail))
        go_cut [31] (fun v31 wc => ∃ b : Bool, v31 = .bool b ∧ w = wc ∧ (b = true → ∃ h : i < l0.length, l0[i] = a1) ∧ (b = false → ∀ h : i < l0.length, l0[i] ≠ a1))
        case first =>
          by_cases h1 : i < l0.length
          · have h1b : decide ((i : Int) < (l0.length : Int)) = true := decide_eq_true (by omega)
            have p0 : (0 : Int) ≤ (i : Int) := by omega
            have q0 : (i : Int) < (l0.length : Int) := by omega
            obtain ⟨ad, rfl, hx0⟩ := Kd.at_string hC (i : Int) p0 q0
            rw [rd_nat h1, Int.toNat_natCast] at hx0
            go_wp2
            repeat (go_quiet (fail); try go_wp2)
            go_meet
            case rel =>
              refine ⟨l0[i].toList == a1.toList, rfl, rfl, fun h => ⟨h1, toList_eq_iff.1 (eq_of_beq h)⟩, fun h _ e => ?_⟩
              rw [e] at h; simp at h
          · have h1b : decide ((i : Int) < (l0.length : Int)) = false := decide_eq_false (by omega)
            go_wp2
            repeat (go_quiet (fail); try go_wp2)
            go_meet
            case rel => exact ⟨false, rfl, rfl, (fun h => by cases h), fun _ h => absurd h h1⟩
        case rest =>
          obtain ⟨b, rfl, rfl, hb1, hb2⟩ := hcut
          have key := insB_at a1 l0 i hi hlt hge
          cases b with
          | true =>
            obtain ⟨h1, h2⟩ := hb1 rfl
            rw [dif_pos h1, if_pos h2] at key
            clear hb1 hb2
            go_wp2
            go_ret
            rw [key]
            exact ⟨_, rfl, Kd.R_mono ho0 (fun _ h => .inl h), hB, Kept.refl _ _⟩
          | false =>
            have hne := hb2 rfl
            have key2 : insB l0 a1 = l0.take i ++ a1 :: l0.drop i := by
              rw [key]
              by_cases h1 : i < l0.length
              · rw [dif_pos h1, if_neg (hne h1)]
              · rw [dif_neg h1]
            clear hb1 hb2 key hne hge
            go_upto_region 6 with (fail)
            have HB := Aside0.mk (Below.refl w.heap.size w)
            refine start_ (n := 12) (S := fun w' => True) (ds := []) #[false, false, false, false, false, false, false, false, false, false, false, false] (by kernel_rfl) rfl rfl trivial (fun hHeld => ?_); refine with_tab (T := rtab .any (opsOf Try.f31 6)) rfl (fun HT_ => ?_)
            have i1 : (i : Int) ≤ (l0.length : Int) := by omega
            have i0 : (0 : Int) ≤ (i : Int) := by omega
            have i2 : decide ((i : Int) ≤ (l0.length : Int)) = true := decide_eq_true i1
            have i3 : decide ((0 : Int) ≤ (i : Int)) = true := decide_eq_true i0
            have i4 : i ≤ co := by omega
            refine pw_ 0 33 HT_.out (h := ?_)
            refine pw_ 1 34 HT_.out (h := ?_)
            refine pw_ 2 35 HT_.out (h := ?_)
            have hbw := HB.out
            clear HB
            have hT0 : Kd.C Kd.string w Ao i (l0.take i) := by
              have h := Kd.C_take hC (m := i) hi
              rw [List.length_take, Nat.min_eq_left hi] at h; exact h
            have hD : Kd.C Kd.string w (if co = i then Ao else Option.map (fun x => x.add i) Ao) (l0.length - i) (l0.drop i) := by
              have h := Kd.C_drop hC (m := i) hi hco
              have e : i * (Kd.string).sz = i := Nat.mul_one i
              rw [e, List.length_drop] at h; exact h
            refine pw_ 4 37 HT_.out (h := ?_)
            refine pw_ 7 40 HT_.out (h := ?_)
            refine pw_ 8 41 HT_.out (h := ?_)
            refine pw_ 9 42 HT_.out (h := ?_)
            generalize (if co = i then Ao else Option.map (fun x => x.add i) Ao) = Ad at hD ⊢
            refine join_ (σ := Value × Value) 3 #[true, true, true, true, true, true, false, true, true, true, false, false] (fun s => [(36, s.1), (38, s.2)]) (fun s W => Kd.R Kd.string 9 W w.heap.size (fun k_ => w.heap.size ≤ k_) s.1 (l0.take i) ∧ Kd.R Kd.string 9 W w.heap.size (fun k_ => w.heap.size ≤ k_) s.2 [a1] ∧ Below w.heap.size w W) ?cont (fun HJ => ?_)
            case cont =>
              rintro ⟨v36, v38⟩ w2 ⟨h36, h38, hb2⟩
              obtain ⟨A36, c36, rfl⟩ := Kd.R_slice h36
              obtain ⟨A38, c38, rfl⟩ := Kd.R_slice h38
              refine norm_ (a' := ?_) ?_ ?_
              rotate_left
              · simp only [putAll, Act.put, List.setIfInBounds_toArray, List.set_cons_zero, List.set_cons_succ, i64_w, i32_w]
                rfl
              refine one_ (i := 6) (N := some 39) #[true, true, true, true, true, true, true, true, true, true, false, false] rfl rfl (one_of HT_.out (by kernel_rfl)) (by decide) (fun K hK => ?_)
              refine Kd.R_append_rows_step Kd.string (w0 := w) w.heap.size (by rfl) (.tmp 36) (.tmp 38) 23 9 (.string ⟨#[]⟩) 16 rfl Try.underlying23 info9 rfl (by decide) (by omega) (.slice A36 (l0.take i).length c36) (l0.take i) [a1] A38 [a1].length c38 (fun k_ => w.heap.size ≤ k_) (fun _ => False) rfl rfl h36 (Kd.R_reads' h38).2.2 (fun _ _ h => h) (fun _ h => h.elim) (fun k_ hk_ => Nat.le_trans hb2.size hk_) hb2 hb2.size (by simp only [List.length_nil, List.length_cons, List.length_append, List.length_take, List.length_drop]; omega) ?_
              intro v39 w3 h39 hb3 hg3 _
              obtain ⟨A39, c39, rfl⟩ := Kd.R_slice h39
              refine hK.out _ _ trivial (fun hHeld => ?_)
              clear hK K
              refine norm_ (a' := ?_) ?_ ?_
              rotate_left
              · show Act.put _ (some 39) _ = _
                simp only [Act.put, List.setIfInBounds_toArray, List.set_cons_zero, List.set_cons_succ, i64_w, i32_w]
                rfl
              refine one_ (i := 10) (N := some 43) #[true, true, true, true, true, true, true, true, true, true, true, false] rfl rfl (one_of HT_.out (by kernel_rfl)) (by decide) (fun K hK => ?_)
              have hD3 := Kd.C_below hD (hb3)
              refine Kd.R_append_rows_step Kd.string (w0 := w) w.heap.size (by rfl) (.tmp 39) (.tmp 42) 23 9 (.string ⟨#[]⟩) 16 rfl Try.underlying23 info9 rfl (by decide) (by omega) (.slice A39 (l0.take i ++ [a1]).length c39) (l0.take i ++ [a1]) (l0.drop i) _ (l0.length - i) (co - i) (fun k_ => w.heap.size ≤ k_) (fun _ => False) rfl rfl h39 hD3 (fun _ _ h => h) (fun _ h => h.elim) (fun k_ hk_ => Nat.le_trans hb3.size hk_) hb3 hb3.size (by simp only [List.length_nil, List.length_cons, List.length_append, List.length_take, List.length_drop]; omega) ?_
              intro v43 w4 h43 hb4 hg4 _
              refine hK.out _ _ trivial (fun hHeld => ?_)
              clear hK K
              refine norm_ (a' := ?_) ?_ ?_
              rotate_left
              · show Act.put _ (some 43) _ = _
                simp only [Act.put, List.setIfInBounds_toArray, List.set_cons_zero, List.set_cons_succ, i64_w, i32_w]
                rfl
              refine pw_ 11 4 HT_.out (h := ?_)
              refine done_ (done_of HT_.out (by kernel_rfl)) ?_
              have e_ : (l0.take i ++ [a1]) ++ l0.drop i = insB l0 a1 := by rw [key2]; simp
              rw [e_] at h43
              clear key2 e_
              go_wp2
              go_ret
              exact ⟨_, rfl, Kd.R_mono (Kd.R_lower h43 hB.size) (fun _ h => .inr h), hB.trans (hb4.mono hB.size), Kept.of_below hb4 _⟩
            refine two_ (i := 3) (j := 5) (Ni := some 36) (Nj := some 38) #[true, true, true, true, true, false, false, true, true, true, false, false] #[true, true, true, false, true, true, false, true, true, true, false, false] rfl rfl rfl rfl (two_of HT_.out (by kernel_rfl)) (by decide) (by decide) (fun K hK => ?_) (fun K hK => ?_)
            · have hbw' : Below w.heap.size w w.drew := hbw.drew
              have hT := Kd.C_below hT0 hbw'
              refine Kd.R_append_rows_step Kd.string (w0 := w) w.heap.size (by rfl) (.const (.slice none 0 0)) (.tmp 35) 23 9 (.string ⟨#[]⟩) 16 rfl Try.underlying23 info9 rfl (by decide) (by omega) (.slice none 0 0) [] (l0.take i) Ao i co (fun k_ => w.heap.size ≤ k_) (fun _ => False) rfl rfl (Kd.R_nil _ _ _ _ _) hT (fun _ _ h => h) (fun _ h => h.elim) (fun k_ hk_ => Nat.le_trans hbw'.size hk_) hbw' hbw'.size (by simp only [List.length_nil, List.length_cons, List.length_append, List.length_take, List.length_drop]; omega) ?_
              intro v36 w2 h36 hb2 hg2 _
              refine hK.out _ _ trivial (fun hHeld => ?_)
              clear hK K
              refine norm_ (a' := ?_) ?_ ?_
              rotate_left
              · show Act.put _ (some 36) _ = _
                simp only [Act.put, List.setIfInBounds_toArray, List.set_cons_zero, List.set_cons_succ, i64_w, i32_w]
                rfl
              refine one_ (i := 5) (N := some 38) #[true, true, true, true, true, true, false, true, true, true, false, false] rfl rfl (one_of HT_.out (by kernel_rfl)) (by decide) (fun K hK => ?_)
              refine Kd.R_lit_step Kd.string (w0 := w) w.heap.size 9 (by rfl) (N := 38) rfl (xs := [a1]) (inner := [.string a1]) (ok := fun k_ => w.heap.size ≤ k_) (okp := fun _ => False) (by first | (go_simp; done) | (go_simp; rfl)) (lit_reps _ _ _ _) (fun _ h => h.elim) hb2.size hb2 hb2.size (by simp) ?_
              intro v38 w3 h38 hb3 hg3 _
              refine hK.out _ _ trivial (fun hHeld => ?_)
              exact HJ (v36, v38) w3 ⟨Kd.R_grown h36 hg3 (fun _ _ e => by cases e), h38, hb3⟩
            · have hbw' : Below w.heap.size w w.drew := hbw.drew
              refine Kd.R_lit_step Kd.string (w0 := w) w.heap.size 9 (by rfl) (N := 38) rfl (xs := [a1]) (inner := [.string a1]) (ok := fun k_ => w.heap.size ≤ k_) (okp := fun _ => False) (by first | (go_simp; done) | (go_simp; rfl)) (lit_reps _ _ _ _) (fun _ h => h.elim) hbw'.size hbw' hbw'.size (by simp) ?_
              intro v38 w2 h38 hb2 hg2 _
              refine hK.out _ _ trivial (fun hHeld => ?_)
              clear hK K
              refine norm_ (a' := ?_) ?_ ?_
              rotate_left
              · show Act.put _ (some 38) _ = _
                simp only [Act.put, List.setIfInBounds_toArray, List.set_cons_zero, List.set_cons_succ, i64_w, i32_w]
                rfl
              refine one_ (i := 3) (N := some 36) #[true, true, true, true, true, true, false, true, true, true, false, false] rfl rfl (one_of HT_.out (by kernel_rfl)) (by decide) (fun K hK => ?_)
              have hT2 := Kd.C_below hT0 hb2
              refine Kd.R_append_rows_step Kd.string (w0 := w) w.heap.size (by rfl) (.const (.slice none 0 0)) (.tmp 35) 23 9 (.string ⟨#[]⟩) 16 rfl Try.underlying23 info9 rfl (by decide) (by omega) (.slice none 0 0) [] (l0.take i) Ao i co (fun k_ => w.heap.size ≤ k_) (fun _ => False) rfl rfl (Kd.R_nil _ _ _ _ _) hT2 (fun _ _ h => h) (fun _ h => h.elim) (fun k_ hk_ => Nat.le_trans hb2.size hk_) hb2 hb2.size (by simp only [List.length_nil, List.length_cons, List.length_append, List.length_take, List.length_drop]; omega) ?_
              intro v36 w3 h36 hb3 hg3 _
              refine hK.out _ _ trivial (fun hHeld => ?_)
              exact HJ (v36, v38) w3 ⟨h36, Kd.R_grown h38 hg3 (fun _ _ e => by cases e), hb3⟩
end Go.Proofs.Ytcgglamgemgeiaa.Q
/- FCorporaref05Insert -/
namespace Go.Proofs.Ytcgglamgemgeiaa.Q
open Go.RowKit Go.Proofs.YtcgglamgemgeiaaW.PrintWords Go.Proofs.YtcgglamgemgeiaaW.PrintLast Go.Proofs.YtcgglamgemgeiaaW.PrintMore
attribute [local go_sem] max2_int min2_int max_two min_two max_three min_three max_four min_four   -- for this text's walks alone
set_option linter.unusedVariables false
set_option linter.unusedSimpArgs false

/-! ### corporaref05_insert: function 31 -/
def corporaref05_insert.f (k : Nat) (l0 : List ByteArray) (a1 : ByteArray) : Option (List ByteArray) := if l0.length < 8796093022207 then some (insB l0 a1) else none
theorem corporaref05_insert.mono : ∀ a0 a1 k, LeO (corporaref05_insert.f k a0 a1) (corporaref05_insert.f (k + 1) a0 a1) := fun _ _ _ => LeO.refl _
theorem corporaref05_insert.calls (k : Nat) (P0_ : Nat → Prop) (u9000_ : Value) (l0 : List ByteArray) (a1 : ByteArray) (r : List ByteArray) (w0 w : World) (hB : Below w0.heap.size w0 w) (ho0 : Kd.R Kd.string 9 w w0.heap.size P0_ u9000_ l0) (h : corporaref05_insert.f k l0 a1 = some r) :
    Calls Try.prog 31 #[u9000_, .string a1] w fun e w' => ∃ v0_ : Value, e = .returned (v0_) ∧ Kd.R Kd.string 9 w' w0.heap.size (fun k_ => (P0_ k_ ∨ w.heap.size ≤ k_)) v0_ r ∧ Below w0.heap.size w0 w' ∧ Kept w w' (fun k_ => P0_ k_) := by
  unfold corporaref05_insert.f at h
  by_cases hl : l0.length < 8796093022207
  · rw [if_pos hl] at h
    obtain rfl := Option.some.inj h
    exact refInsert_calls P0_ u9000_ l0 a1 w0 w hB ho0 hl
  · rw [if_neg hl] at h
    cases h

end Go.Proofs.Ytcgglamgemgeiaa.Q
/- FCorporaref05Text -/
namespace Go.Proofs.Ytcgglamgemgeiaa.Q
open Go.RowKit Go.Proofs.YtcgglamgemgeiaaW.PrintWords Go.Proofs.YtcgglamgemgeiaaW.PrintLast Go.Proofs.YtcgglamgemgeiaaW.PrintMore
attribute [local go_sem] max2_int min2_int max_two min_two max_three min_three max_four min_four   -- for this text's walks alone
set_option linter.unusedVariables false
set_option linter.unusedSimpArgs false

/-! ### corporaref05_text: function 32 -/
def corporaref05_text.l0 : Nat → ByteArray → List ByteArray → Int → Int → Option (ByteArray)
  | 0, _, _, _, _ => none
  | k + 1, x3, x6, x7, x8 => if x8 < x7 then (if 0 ≤ x8 then (if x8 < (x6.length : Int) then (if (rdOf ByteArray.empty x6 x8).size + 1 ≤ 9223372036854775807 then (if x3.size + ((rdOf ByteArray.empty x6 x8) ++ (⟨#[124]⟩ : ByteArray)).size ≤ 9223372036854775807 then (corporaref05_text.l0 k (x3 ++ ((rdOf ByteArray.empty x6 x8) ++ (⟨#[124]⟩ : ByteArray))) x6 x7 (wrap64 (x8 + 1))) else (none)) else (none)) else (none)) else (none)) else (some x3)
def corporaref05_text.f (k : Nat) (l0 : List ByteArray) : Option (ByteArray) := corporaref05_text.l0 k (⟨#[124]⟩ : ByteArray) l0 (l0.length : Int) 0
theorem corporaref05_text.mono_l : ∀ k, (∀ y0 y1 y2 y3, LeO (corporaref05_text.l0 k y0 y1 y2 y3) (corporaref05_text.l0 (k + 1) y0 y1 y2 y3))
  | 0 => fun _ _ _ _ r h => by simp [corporaref05_text.l0] at h
  | k + 1 => by
    have ih0 := corporaref05_text.mono_l k
    · intro y0 y1 y2 y3
      unfold corporaref05_text.l0
      repeat' first
      | (with_reducible exact ih0 _ _ _ _)
      | (with_reducible exact LeO.refl _)
      | (with_reducible exact LeO.none _)
      | (with_reducible refine LeO.ite ?_ ?_)
      | (with_reducible refine LeO.bind ?_ (fun _ => ?_))
      | exact ih0 _ _ _ _
      | exact LeO.none _
      | refine LeO.ite ?_ ?_
      | refine LeO.bind ?_ (fun _ => ?_)
theorem corporaref05_text.mono : ∀ a0 k, LeO (corporaref05_text.f k a0) (corporaref05_text.f (k + 1) a0) := by
  intro a0 k
  have ih0 := corporaref05_text.mono_l k
  unfold corporaref05_text.f
  repeat' first
      | (with_reducible exact ih0 _ _ _ _)
      | (with_reducible exact LeO.refl _)
      | (with_reducible exact LeO.none _)
      | (with_reducible refine LeO.ite ?_ ?_)
      | (with_reducible refine LeO.bind ?_ (fun _ => ?_))
      | exact ih0 _ _ _ _
      | exact LeO.none _
      | refine LeO.ite ?_ ?_
      | refine LeO.bind ?_ (fun _ => ?_)
set_option maxHeartbeats 8000000 in
set_option maxRecDepth 100000 in
theorem corporaref05_text.calls (k : Nat) (A0 : Option Addr) (c0 : Nat) (l0 : List ByteArray) (r : ByteArray) (w : World) (hr0 : Kd.C Kd.string w A0 l0.length l0) (hc0 : l0.length ≤ c0) (h : corporaref05_text.f k l0 = some r) :
    Calls Try.prog 32 #[.slice A0 l0.length c0] w fun e w' => e = .returned (.string r) ∧ Drawn0 w w' := by
  have HR0 := Aside0.mk hr0
  have HC0 := Aside0.mk hc0
  clear hr0 hc0
  have H : (corporaref05_text.l0 k (⟨#[124]⟩ : ByteArray) l0 (l0.length : Int) 0) = some r := h
  clear h
  have H' := Aside0.mk H
  clear H
  go_enter Try.func32, Try.ntmps32
  go_wp2
  go_loopg [3, 8] k (fun kq v3 v8 w' => ∃ (x3_1 : ByteArray) (x8_1 : Int), v3 = .string x3_1 ∧ v8 = .int .i64 x8_1 ∧ Aside0 (corporaref05_text.l0 kq x3_1 l0 (l0.length : Int) x8_1 = some r) ∧ Aside0 (kq ≤ k) ∧ Drawn0 w w')
  case atStart => exact ⟨((⟨#[124]⟩ : ByteArray)), (0), (by first | rfl | (simp; done) | (simp [*]; done)), (by first | rfl | (simp; done) | (simp [*]; done)), H', ⟨Nat.le_refl _⟩, by repeat (first | exact Drawn0.refl _ | apply Drawn0.step)⟩
  case round =>
    clear H'
    obtain ⟨x3_1, x8_1, rfl, rfl, HA, HK1, ⟨m1, rfl⟩⟩ := hrel
    cases gk with
    | zero => exact absurd HA.out (by simp [corporaref05_text.l0])
    | succ k1 =>
      have H := HA.out
      clear HA
      simp only [corporaref05_text.l0] at H
      by_cases c2 : x8_1 < (l0.length : Int)
      · rw [if_pos c2] at H
        have c2b0 : decide (x8_1 < (l0.length : Int)) = true := decide_eq_true c2
        clear c2
        by_cases c3 : 0 ≤ x8_1
        · rw [if_pos c3] at H
          have c3b0 : decide (0 ≤ x8_1) = true := decide_eq_true c3
          clear c3
          by_cases c4 : x8_1 < (l0.length : Int)
          · rw [if_pos c4] at H
            have c4b0 : decide (x8_1 < (l0.length : Int)) = true := decide_eq_true c4
            clear c4
            by_cases c5 : (rdOf ByteArray.empty l0 x8_1).size + 1 ≤ 9223372036854775807
            · rw [if_pos c5] at H
              have c5b0 := eq_true c5
              have c5b1 : decide ((rdOf ByteArray.empty l0 x8_1).size + 1 ≤ 9223372036854775807) = true := decide_eq_true c5
              try have c5b2 : (9223372036854775807 < (rdOf ByteArray.empty l0 x8_1).size + 1) = False := eq_false (Nat.not_lt.2 c5)
              by_cases c6 : x3_1.size + ((rdOf ByteArray.empty l0 x8_1) ++ (⟨#[124]⟩ : ByteArray)).size ≤ 9223372036854775807
              · rw [if_pos c6] at H
                have c6b0 := eq_true c6
                have c6b1 : decide (x3_1.size + ((rdOf ByteArray.empty l0 x8_1) ++ (⟨#[124]⟩ : ByteArray)).size ≤ 9223372036854775807) = true := decide_eq_true c6
                try have c6b2 : (9223372036854775807 < x3_1.size + ((rdOf ByteArray.empty l0 x8_1) ++ (⟨#[124]⟩ : ByteArray)).size) = False := eq_false (Nat.not_lt.2 c6)
                have H' := Aside0.mk H
                clear H
                have p285 : 0 ≤ (x8_1 : Int) := of_decide_eq_true (by first | (with_reducible assumption) | assumption)
                have q285 : x8_1 < (l0.length : Int) := of_decide_eq_true (by first | (with_reducible assumption) | assumption)
                obtain ⟨ad285, e285, hx285_0⟩ := Kd.at_string HR0.out x8_1 p285 q285
                cases e285
                replace p285 := eq_true p285
                replace q285 := eq_true q285
                go_wp2
                go_roundg k1
                case measure => have := HK1.out; omega
                case rel => exact ⟨(x3_1 ++ ((rdOf ByteArray.empty l0 x8_1) ++ (⟨#[124]⟩ : ByteArray))), (wrap64 (x8_1 + 1)), (by first | rfl | (simp; done) | (simp [*]; done)), (by first | rfl | (simp; done) | (simp [*]; done)), H', ⟨by have := HK1.out; omega⟩, by repeat (first | exact Drawn0.refl _ | apply Drawn0.step)⟩
              · rw [if_neg c6] at H
                exact absurd H (by simp)
            · rw [if_neg c5] at H
              exact absurd H (by simp)
          · rw [if_neg c4] at H
            exact absurd H (by simp)
        · rw [if_neg c3] at H
          exact absurd H (by simp)
      · rw [if_neg c2] at H
        have c2b0 : decide (x8_1 < (l0.length : Int)) = false := decide_eq_false c2
        clear c2
        obtain rfl := Option.some.inj H
        go_wp2
        go_ret
        exact ⟨by first | rfl | (simp; done) | (simp [*]; done), by repeat (first | exact Drawn0.refl _ | apply Drawn0.step)⟩

end Go.Proofs.Ytcgglamgemgeiaa.Q
/- FCorporaref05Format -/
namespace Go.Proofs.Ytcgglamgemgeiaa.Q
open Go.RowKit Go.Proofs.YtcgglamgemgeiaaW.PrintWords Go.Proofs.YtcgglamgemgeiaaW.PrintLast Go.Proofs.YtcgglamgemgeiaaW.PrintMore
attribute [local go_sem] max2_int min2_int max_two min_two max_three min_three max_four min_four   -- for this text's walks alone
set_option linter.unusedVariables false
set_option linter.unusedSimpArgs false

/-! ### corporaref05_Format: function 17 -/
def corporaref05_Format.l0 : Nat → List ByteArray → List ByteArray → Int → Int → Option (ByteArray × Int)
  | 0, _, _, _, _ => none
  | k + 1, x4, x9, x10, x11 => if x11 < x10 then (if 0 ≤ x11 then (if x11 < (x9.length : Int) then ((corporaref04_ValidValue.f (rdOf ByteArray.empty x9 x11)).bind fun t288 => (if t288 = 0 then (if (rdOf ByteArray.empty x9 x11).toList = ([] : List UInt8) then (some ((⟨#[]⟩ : ByteArray), 3)) else ((inF_ k (rdOf ByteArray.empty x9 x11) 124).bind fun t292 => (if t292 = true then (some ((⟨#[]⟩ : ByteArray), 3)) else ((corporaref05_insert.f k x4 (rdOf ByteArray.empty x9 x11)).bind fun t293 => (corporaref05_Format.l0 k t293 x9 x10 (wrap64 (x11 + 1))))))) else (some ((⟨#[]⟩ : ByteArray), t288)))) else (none)) else (none)) else ((corporaref05_text.f k x4).bind fun t286 => (if (t286.size : Int) > 120 then (some ((⟨#[]⟩ : ByteArray), 2)) else (some (t286, 0))))
def corporaref05_Format.f (k : Nat) (l0 : List ByteArray) : Option (ByteArray × Int) := corporaref05_Format.l0 k ([] : List ByteArray) l0 (l0.length : Int) 0
theorem corporaref05_Format.mono_l : ∀ k, (∀ y0 y1 y2 y3, LeO (corporaref05_Format.l0 k y0 y1 y2 y3) (corporaref05_Format.l0 (k + 1) y0 y1 y2 y3))
  | 0 => fun _ _ _ _ r h => by simp [corporaref05_Format.l0] at h
  | k + 1 => by
    have ih0 := corporaref05_Format.mono_l k
    · intro y0 y1 y2 y3
      unfold corporaref05_Format.l0
      repeat' first
      | (with_reducible exact ih0 _ _ _ _)
      | (with_reducible exact inF_.mono _ _ _)
      | (with_reducible exact corporaref05_insert.mono _ _ _)
      | (with_reducible exact corporaref05_text.mono _ _)
      | (with_reducible exact LeO.refl _)
      | (with_reducible exact LeO.none _)
      | (with_reducible refine LeO.ite ?_ ?_)
      | (with_reducible refine LeO.bind ?_ (fun _ => ?_))
      | exact ih0 _ _ _ _
      | exact inF_.mono _ _ _
      | exact corporaref05_insert.mono _ _ _
      | exact corporaref05_text.mono _ _
      | exact LeO.none _
      | refine LeO.ite ?_ ?_
      | refine LeO.bind ?_ (fun _ => ?_)
theorem corporaref05_Format.mono : ∀ a0 k, LeO (corporaref05_Format.f k a0) (corporaref05_Format.f (k + 1) a0) := by
  intro a0 k
  have ih0 := corporaref05_Format.mono_l k
  unfold corporaref05_Format.f
  repeat' first
      | (with_reducible exact ih0 _ _ _ _)
      | (with_reducible exact inF_.mono _ _ _)
      | (with_reducible exact corporaref05_insert.mono _ _ _)
      | (with_reducible exact corporaref05_text.mono _ _)
      | (with_reducible exact LeO.refl _)
      | (with_reducible exact LeO.none _)
      | (with_reducible refine LeO.ite ?_ ?_)
      | (with_reducible refine LeO.bind ?_ (fun _ => ?_))
      | exact ih0 _ _ _ _
      | exact inF_.mono _ _ _
      | exact corporaref05_insert.mono _ _ _
      | exact corporaref05_text.mono _ _
      | exact LeO.none _
      | refine LeO.ite ?_ ?_
      | refine LeO.bind ?_ (fun _ => ?_)
set_option maxHeartbeats 8000000 in
set_option maxRecDepth 100000 in
theorem corporaref05_Format.calls (k : Nat) (A0 : Option Addr) (c0 : Nat) (l0 : List ByteArray) (r1 : ByteArray) (r2 : Int) (w : World) (hr0 : Kd.C Kd.string w A0 l0.length l0) (hc0 : l0.length ≤ c0) (h : corporaref05_Format.f k l0 = some (r1, r2)) :
    Calls Try.prog 17 #[.slice A0 l0.length c0] w fun e w' => e = .returned (.tuple #[.string r1, .int .i64 r2]) ∧ Below w.heap.size w w' := by
  have HR0 := Aside0.mk hr0
  have HC0 := Aside0.mk hc0
  clear hr0 hc0
  have HB := Aside0.mk (Below.refl w.heap.size w)
  have H : (corporaref05_Format.l0 k ([] : List ByteArray) l0 (l0.length : Int) 0) = some (r1, r2) := h
  clear h
  have H' := Aside0.mk H
  clear H
  go_enter Try.func17, Try.ntmps17
  go_wp2
  go_loopg [4, 11] k (fun kq v4 v11 w' => ∃ (x4_1 : List ByteArray) (x11_1 : Int), v11 = .int .i64 x11_1 ∧ Aside0 (corporaref05_Format.l0 kq x4_1 l0 (l0.length : Int) x11_1 = some (r1, r2)) ∧ Aside0 (kq ≤ k) ∧ Aside0 (Kd.R Kd.string 9 w' w.heap.size (fun _ => True) v4 x4_1) ∧ Aside0 (Below w.heap.size w w'))
  case atStart => exact ⟨(([] : List ByteArray)), (0), (by first | rfl | (simp; done) | (simp [*]; done)), H', ⟨Nat.le_refl _⟩, ⟨by first | exact Kd.R_nil _ _ _ _ _ | exact Kd.N_nil _ _ _ _ _ | exact Kd.V_nil _ _ _ _ _ | exact Kd.Q_nil _ _ _ _ _ | exact Kd.S_nil _ _ _ _ _⟩, ⟨by repeat (first | (with_reducible first | exact HB.out | apply below_alloc | apply pw_below_drewN | apply below_drew1) | exact HB.out)⟩⟩
  case round =>
    clear H'
    try clear c1
    obtain ⟨x4_1, x11_1, rfl, HA, HK1, HO_4, HB⟩ := hrel
    cases gk with
    | zero => exact absurd HA.out (by simp [corporaref05_Format.l0])
    | succ k1 =>
      have H := HA.out
      clear HA
      simp only [corporaref05_Format.l0] at H
      by_cases c2 : x11_1 < (l0.length : Int)
      · rw [if_pos c2] at H
        have c2b0 : decide (x11_1 < (l0.length : Int)) = true := decide_eq_true c2
        clear c2
        by_cases c3 : 0 ≤ x11_1
        · rw [if_pos c3] at H
          have c3b0 : decide (0 ≤ x11_1) = true := decide_eq_true c3
          clear c3
          by_cases c4 : x11_1 < (l0.length : Int)
          · rw [if_pos c4] at H
            have c4b0 : decide (x11_1 < (l0.length : Int)) = true := decide_eq_true c4
            clear c4
            replace H := Option.bind_eq_some_iff.mp H
            obtain ⟨t288, A50, H⟩ := H
            replace H : (if t288 = 0 then (if (rdOf ByteArray.empty l0 x11_1).toList = ([] : List UInt8) then (some ((⟨#[]⟩ : ByteArray), 3)) else ((inF_ k1 (rdOf ByteArray.empty l0 x11_1) 124).bind fun t292 => (if t292 = true then (some ((⟨#[]⟩ : ByteArray), 3)) else ((corporaref05_insert.f k1 x4_1 (rdOf ByteArray.empty l0 x11_1)).bind fun t293 => (corporaref05_Format.l0 k1 t293 l0 (l0.length : Int) (wrap64 (x11_1 + 1))))))) else (some ((⟨#[]⟩ : ByteArray), t288))) = some (r1, r2) := H
            have A5 := Aside0.mk A50
            clear A50
            by_cases c6 : t288 = 0
            · rw [if_pos c6] at H
              have c6b0 : (t288 == 0) = true := beq_iff_eq.mpr c6
              have c6b1 : (t288 != 0) = false := bne_eq_false_iff_eq.mpr c6
              clear c6
              by_cases c7 : (rdOf ByteArray.empty l0 x11_1).toList = ([] : List UInt8)
              · rw [if_pos c7] at H
                have c7b0 : ((rdOf ByteArray.empty l0 x11_1).toList == ([] : List UInt8)) = true := beq_iff_eq.mpr c7
                have c7b1 : ((rdOf ByteArray.empty l0 x11_1).toList != ([] : List UInt8)) = false := bne_eq_false_iff_eq.mpr c7
                clear c7
                simp only [Option.some.injEq, Prod.mk.injEq] at H
                obtain ⟨rfl, rfl⟩ := H
                have p287 : 0 ≤ (x11_1 : Int) := of_decide_eq_true (by first | (with_reducible assumption) | assumption)
                have q287 : x11_1 < (l0.length : Int) := of_decide_eq_true (by first | (with_reducible assumption) | assumption)
                obtain ⟨ad287, e287, hx287_0⟩ := Kd.at_string HR0.out x11_1 p287 q287
                cases e287
                replace hx287_0 := (HB.out.cell (World.block_lt_of_cell? w _ hx287_0)).trans hx287_0
                replace p287 := eq_true p287
                replace q287 := eq_true q287
                go_wp2_with (first | ((with_reducible refine gate_callee (f := 27) rfl ?_); refine goesL_ (some 16) rfl rfl Try.func27 (by kernel_rfl) rfl #[.string (rdOf ByteArray.empty l0 x11_1)] rfl (by (try simp only [List.map_toArray, List.map_cons, List.map_nil]); first | done | rfl | (simp only [List.length_drop, List.length_take]; rfl)) ?_; (with_reducible refine (corporaref04_ValidValue.calls (rdOf ByteArray.empty l0 x11_1) t288 _ A5.out).mono ?_); rintro e w8 ⟨rfl, hb⟩; refine ⟨_, rfl, ?_⟩; have n0_ := Aside0.mk (Kd.R_below (by (with_reducible repeat (first | apply Kd.R_alloc | apply Kd.R_drewN | apply Kd.R_drew)); exact HO_4.out) hb); have n1_ := Aside0.mk (below_step (by repeat (first | (with_reducible first | exact HB.out | apply below_alloc | apply pw_below_drewN | apply below_drew1) | exact HB.out)) hb); clear HO_4; clear HB; have HO_4 := n0_; have HB := n1_; clear n0_ n1_; (try clear hb); (try clear hb2); (try clear hk); (try clear hi)))
                go_ret2
                exact ⟨by first | rfl | (simp [errW_none, errW_some] <;> rfl) | (simp [*, errW_none, errW_some] <;> rfl), by repeat (first | (with_reducible first | exact HB.out | apply below_alloc | apply pw_below_drewN | apply below_drew1) | exact HB.out)⟩
              · rw [if_neg c7] at H
                have c7b0 : ((rdOf ByteArray.empty l0 x11_1).toList == ([] : List UInt8)) = false := beq_eq_false_iff_ne.mpr c7
                have c7b1 : ((rdOf ByteArray.empty l0 x11_1).toList != ([] : List UInt8)) = true := bne_iff_ne.mpr c7
                have hsz_ : (rdOf ByteArray.empty l0 x11_1).size ≤ 9223372036854775807 := by
                  rcases Nat.lt_or_ge 9223372036854775807 (rdOf ByteArray.empty l0 x11_1).size with h_ | h_
                  · rw [inF_, if_neg (by omega)] at H; exact absurd H (by simp)
                  · exact h_
                rw [inF_, if_pos hsz_] at H
                obtain ⟨y289, hy289⟩ : ∃ y_ : List Int, y_ = (bytesOf (rdOf ByteArray.empty l0 x11_1)) := ⟨_, rfl⟩
                replace H : ((corporaref05_In.f k1 y289 124).bind fun t292 => (if t292 = true then (some ((⟨#[]⟩ : ByteArray), 3)) else ((corporaref05_insert.f k1 x4_1 (rdOf ByteArray.empty l0 x11_1)).bind fun t293 => (corporaref05_Format.l0 k1 t293 l0 (l0.length : Int) (wrap64 (x11_1 + 1)))))) = some (r1, r2) := by first | (rw [hy289]; with_reducible exact H) | (have H2_ := (Option.bind_some _ _).symm.trans H; rw [hy289]; with_reducible exact H2_) | (have H2_ := (Option.bind_some _ _).symm.trans H; with_reducible exact H2_) | with_reducible exact H | (rw [hy289]; exact H) | exact H
                have Ny289 := Aside0.mk hy289
                clear hy289
                replace H := Option.bind_eq_some_iff.mp H
                obtain ⟨t292, A90, H⟩ := H
                replace H : (if t292 = true then (some ((⟨#[]⟩ : ByteArray), 3)) else ((corporaref05_insert.f k1 x4_1 (rdOf ByteArray.empty l0 x11_1)).bind fun t293 => (corporaref05_Format.l0 k1 t293 l0 (l0.length : Int) (wrap64 (x11_1 + 1))))) = some (r1, r2) := H
                have A9 := Aside0.mk A90
                clear A90
                by_cases c10 : t292 = true
                · subst c10
                  have H1 : (some ((⟨#[]⟩ : ByteArray), 3)) = some (r1, r2) := by rw [if_pos rfl] at H; exact H
                  clear H
                  have H := H1
                  clear H1
                  simp only [Option.some.injEq, Prod.mk.injEq] at H
                  obtain ⟨rfl, rfl⟩ := H
                  have p287 : 0 ≤ (x11_1 : Int) := of_decide_eq_true (by first | (with_reducible assumption) | assumption)
                  have q287 : x11_1 < (l0.length : Int) := of_decide_eq_true (by first | (with_reducible assumption) | assumption)
                  obtain ⟨ad287, e287, hx287_0⟩ := Kd.at_string HR0.out x11_1 p287 q287
                  cases e287
                  replace hx287_0 := (HB.out.cell (World.block_lt_of_cell? w _ hx287_0)).trans hx287_0
                  replace p287 := eq_true p287
                  replace q287 := eq_true q287
                  go_wp2_with (first | ((with_reducible refine gate_callee (f := 27) rfl ?_); refine goesL_ (some 16) rfl rfl Try.func27 (by kernel_rfl) rfl #[.string (rdOf ByteArray.empty l0 x11_1)] rfl (by (try simp only [List.map_toArray, List.map_cons, List.map_nil]); first | done | rfl | (simp only [List.length_drop, List.length_take]; rfl)) ?_; (with_reducible refine (corporaref04_ValidValue.calls (rdOf ByteArray.empty l0 x11_1) t288 _ A5.out).mono ?_); rintro e w11 ⟨rfl, hb⟩; refine ⟨_, rfl, ?_⟩; have n0_ := Aside0.mk (Kd.R_below (by (with_reducible repeat (first | apply Kd.R_alloc | apply Kd.R_drewN | apply Kd.R_drew)); exact HO_4.out) hb); have n1_ := Aside0.mk (below_step (by repeat (first | (with_reducible first | exact HB.out | apply below_alloc | apply pw_below_drewN | apply below_drew1) | exact HB.out)) hb); clear HO_4; clear HB; have HO_4 := n0_; have HB := n1_; clear n0_ n1_; (try clear hb); (try clear hb2); (try clear hk); (try clear hi)) | ((with_reducible refine gate_dst (N := 24) rfl ?_); (try (refine gate_guard (by rfl) ?_; dsimp only)); refine R_conv (w0 := w) w.heap.size 5 ?hg 9 42 (.tmp 23) rfl (rdOf ByteArray.empty l0 x11_1) ?hx Try.underlying9 Try.underlying42 Try.underlying5 ?hB ?hS ?hM ?_; (case hg => rfl); (case hx => rfl); (case hB => exact (by repeat (first | (with_reducible first | exact HB.out | apply below_alloc | apply pw_below_drewN | apply below_drew1) | exact HB.out))); (case hS => exact (below_size (by repeat (first | (with_reducible first | exact HB.out | apply below_alloc | apply pw_below_drewN | apply below_drew1) | exact HB.out)))); (case hM => exact hsz_); intro A14_ c14_ w12 hC_ hl_ hb0_ hb; (first | rw [← Ny289.out] at hC_ hl_ | skip); have n0_ := Aside0.mk (Kd.R_below (by (with_reducible repeat (first | apply Kd.R_alloc | apply Kd.R_drewN | apply Kd.R_drew)); exact HO_4.out) hb); have n1_ := Aside0.mk hC_; have n3_ := Aside0.mk hl_; have n2_ := Aside0.mk hb0_; clear HO_4; clear HB; have HO_4 := n0_; have HC291_ := n1_; have HL291_ := n3_; have HB := n2_; clear n0_ n1_ n2_ n3_; clear hb hb0_ hC_ hl_; (try rw [← Ny289.out])) | (go_at_call 30; (with_reducible refine (corporaref05_In.calls k1 _ _ y289 124 true _ ?side1 ?side2 A9.out).mono ?_); (case side1 => repeat (first | exact HC291_.out | (with_reducible refine Kd.C_alloc ?_ _) | (with_reducible refine Kd.C_drewN ?_ _) | (with_reducible refine Kd.C_drew ?_))); (case side2 => exact HL291_.out); rintro e w' ⟨rfl, ⟨nd, rfl⟩⟩))
                  go_ret2
                  exact ⟨by first | rfl | (simp [errW_none, errW_some] <;> rfl) | (simp [*, errW_none, errW_some] <;> rfl), by repeat (first | (with_reducible first | exact HB.out | apply below_alloc | apply pw_below_drewN | apply below_drew1) | exact HB.out)⟩
                · replace c10 := Bool.eq_false_iff.mpr c10
                  subst c10
                  have H1 : ((corporaref05_insert.f k1 x4_1 (rdOf ByteArray.empty l0 x11_1)).bind fun t293 => (corporaref05_Format.l0 k1 t293 l0 (l0.length : Int) (wrap64 (x11_1 + 1)))) = some (r1, r2) := by rw [if_neg (show ¬ (false = true) by decide)] at H; exact H
                  clear H
                  have H := H1
                  clear H1
                  replace H := Option.bind_eq_some_iff.mp H
                  obtain ⟨t293, A150, H⟩ := H
                  replace H : (corporaref05_Format.l0 k1 t293 l0 (l0.length : Int) (wrap64 (x11_1 + 1))) = some (r1, r2) := H
                  have A15 := Aside0.mk A150
                  clear A150
                  have H' := Aside0.mk H
                  clear H
                  have p287 : 0 ≤ (x11_1 : Int) := of_decide_eq_true (by first | (with_reducible assumption) | assumption)
                  have q287 : x11_1 < (l0.length : Int) := of_decide_eq_true (by first | (with_reducible assumption) | assumption)
                  obtain ⟨ad287, e287, hx287_0⟩ := Kd.at_string HR0.out x11_1 p287 q287
                  cases e287
                  replace hx287_0 := (HB.out.cell (World.block_lt_of_cell? w _ hx287_0)).trans hx287_0
                  replace p287 := eq_true p287
                  replace q287 := eq_true q287
                  go_wp2_with (first | ((with_reducible refine gate_callee (f := 27) rfl ?_); refine goesL_ (some 16) rfl rfl Try.func27 (by kernel_rfl) rfl #[.string (rdOf ByteArray.empty l0 x11_1)] rfl (by (try simp only [List.map_toArray, List.map_cons, List.map_nil]); first | done | rfl | (simp only [List.length_drop, List.length_take]; rfl)) ?_; (with_reducible refine (corporaref04_ValidValue.calls (rdOf ByteArray.empty l0 x11_1) t288 _ A5.out).mono ?_); rintro e w16 ⟨rfl, hb⟩; refine ⟨_, rfl, ?_⟩; have n0_ := Aside0.mk (Kd.R_below (by (with_reducible repeat (first | apply Kd.R_alloc | apply Kd.R_drewN | apply Kd.R_drew)); exact HO_4.out) hb); have n1_ := Aside0.mk (below_step (by repeat (first | (with_reducible first | exact HB.out | apply below_alloc | apply pw_below_drewN | apply below_drew1) | exact HB.out)) hb); clear HO_4; clear HB; have HO_4 := n0_; have HB := n1_; clear n0_ n1_; (try clear hb); (try clear hb2); (try clear hk); (try clear hi)) | ((with_reducible refine gate_dst (N := 24) rfl ?_); (try (refine gate_guard (by rfl) ?_; dsimp only)); refine R_conv (w0 := w) w.heap.size 5 ?hg 9 42 (.tmp 23) rfl (rdOf ByteArray.empty l0 x11_1) ?hx Try.underlying9 Try.underlying42 Try.underlying5 ?hB ?hS ?hM ?_; (case hg => rfl); (case hx => rfl); (case hB => exact (by repeat (first | (with_reducible first | exact HB.out | apply below_alloc | apply pw_below_drewN | apply below_drew1) | exact HB.out))); (case hS => exact (below_size (by repeat (first | (with_reducible first | exact HB.out | apply below_alloc | apply pw_below_drewN | apply below_drew1) | exact HB.out)))); (case hM => exact hsz_); intro A14_ c14_ w17 hC_ hl_ hb0_ hb; (first | rw [← Ny289.out] at hC_ hl_ | skip); have n0_ := Aside0.mk (Kd.R_below (by (with_reducible repeat (first | apply Kd.R_alloc | apply Kd.R_drewN | apply Kd.R_drew)); exact HO_4.out) hb); have n1_ := Aside0.mk hC_; have n3_ := Aside0.mk hl_; have n2_ := Aside0.mk hb0_; clear HO_4; clear HB; have HO_4 := n0_; have HC291_ := n1_; have HL291_ := n3_; have HB := n2_; clear n0_ n1_ n2_ n3_; clear hb hb0_ hC_ hl_; (try rw [← Ny289.out])) | (go_at_call 30; (with_reducible refine (corporaref05_In.calls k1 _ _ y289 124 false _ ?side1 ?side2 A9.out).mono ?_); (case side1 => repeat (first | exact HC291_.out | (with_reducible refine Kd.C_alloc ?_ _) | (with_reducible refine Kd.C_drewN ?_ _) | (with_reducible refine Kd.C_drew ?_))); (case side2 => exact HL291_.out); rintro e w' ⟨rfl, ⟨nd, rfl⟩⟩; obtain ⟨Ao20, co20, eo20⟩ := Kd.R_slice HO_4.out; subst eo20) | ((with_reducible refine gate_callee (f := 31) rfl ?_); refine goesL_ (some 29) rfl rfl Try.func31 (by kernel_rfl) rfl #[.slice Ao20 x4_1.length co20, .string (rdOf ByteArray.empty l0 x11_1)] rfl (by (try simp only [List.map_toArray, List.map_cons, List.map_nil]); first | done | rfl | (simp only [List.length_drop, List.length_take]; rfl)) ?_; (with_reducible refine (corporaref05_insert.calls k1 (fun k_ => some k_ = (.slice Ao20 x4_1.length co20 : Value).ownBlock) (.slice Ao20 x4_1.length co20) x4_1 (rdOf ByteArray.empty l0 x11_1) t293 w _ ?side1 ?side2 A15.out).mono ?_); (case side1 => repeat (first | (with_reducible first | exact HB.out | apply below_alloc | apply pw_below_drewN | apply below_drew1) | exact HB.out)); (case side2 => exact Kd.R_tight rfl HO_4.out); rintro e w21 ⟨v294, rfl, ho0, hb, hkp⟩; refine ⟨_, rfl, ?_⟩; have n1_ := Aside0.mk (Kd.R_mono (ok' := fun k_ => True) ho0 (fun k_ hk_ => trivial)); have n2_ := Aside0.mk (hb); clear HB; clear HO_4; have HO295 := n1_; have HB := n2_; clear n1_ n2_; (try clear hb); (try clear hkp); (try clear ho0)))
                  go_roundg k1
                  case measure => have := HK1.out; omega
                  case rel => exact ⟨(t293), (wrap64 (x11_1 + 1)), (by first | rfl | (simp; done) | (simp [*]; done)), H', ⟨by have := HK1.out; omega⟩, ⟨by (with_reducible repeat (first | apply Kd.R_alloc | apply Kd.R_drewN | apply Kd.R_drew)); exact HO295.out⟩, ⟨by repeat (first | (with_reducible first | exact HB.out | apply below_alloc | apply pw_below_drewN | apply below_drew1) | exact HB.out)⟩⟩
            · rw [if_neg c6] at H
              have c6b0 : (t288 == 0) = false := beq_eq_false_iff_ne.mpr c6
              have c6b1 : (t288 != 0) = true := bne_iff_ne.mpr c6
              simp only [Option.some.injEq, Prod.mk.injEq] at H
              obtain ⟨rfl, rfl⟩ := H
              have p287 : 0 ≤ (x11_1 : Int) := of_decide_eq_true (by first | (with_reducible assumption) | assumption)
              have q287 : x11_1 < (l0.length : Int) := of_decide_eq_true (by first | (with_reducible assumption) | assumption)
              obtain ⟨ad287, e287, hx287_0⟩ := Kd.at_string HR0.out x11_1 p287 q287
              cases e287
              replace hx287_0 := (HB.out.cell (World.block_lt_of_cell? w _ hx287_0)).trans hx287_0
              replace p287 := eq_true p287
              replace q287 := eq_true q287
              go_wp2_with (first | ((with_reducible refine gate_callee (f := 27) rfl ?_); refine goesL_ (some 16) rfl rfl Try.func27 (by kernel_rfl) rfl #[.string (rdOf ByteArray.empty l0 x11_1)] rfl (by (try simp only [List.map_toArray, List.map_cons, List.map_nil]); first | done | rfl | (simp only [List.length_drop, List.length_take]; rfl)) ?_; (with_reducible refine (corporaref04_ValidValue.calls (rdOf ByteArray.empty l0 x11_1) t288 _ A5.out).mono ?_); rintro e w22 ⟨rfl, hb⟩; refine ⟨_, rfl, ?_⟩; have n0_ := Aside0.mk (Kd.R_below (by (with_reducible repeat (first | apply Kd.R_alloc | apply Kd.R_drewN | apply Kd.R_drew)); exact HO_4.out) hb); have n1_ := Aside0.mk (below_step (by repeat (first | (with_reducible first | exact HB.out | apply below_alloc | apply pw_below_drewN | apply below_drew1) | exact HB.out)) hb); clear HO_4; clear HB; have HO_4 := n0_; have HB := n1_; clear n0_ n1_; (try clear hb); (try clear hb2); (try clear hk); (try clear hi)))
              go_ret2
              exact ⟨by first | rfl | (simp [errW_none, errW_some] <;> rfl) | (simp [*, errW_none, errW_some] <;> rfl), by repeat (first | (with_reducible first | exact HB.out | apply below_alloc | apply pw_below_drewN | apply below_drew1) | exact HB.out)⟩
          · rw [if_neg c4] at H
            exact absurd H (by simp)
        · rw [if_neg c3] at H
          exact absurd H (by simp)
      · rw [if_neg c2] at H
        have c2b0 : decide (x11_1 < (l0.length : Int)) = false := decide_eq_false c2
        clear c2
        replace H := Option.bind_eq_some_iff.mp H
        obtain ⟨t286, A230, H⟩ := H
        replace H : (if (t286.size : Int) > 120 then (some ((⟨#[]⟩ : ByteArray), 2)) else (some (t286, 0))) = some (r1, r2) := H
        have A23 := Aside0.mk A230
        clear A230
        by_cases c24 : (t286.size : Int) > 120
        · rw [if_pos c24] at H
          have c24b0 : decide (120 < (t286.size : Int)) = true := decide_eq_true c24
          have c24b1 : decide (120 < t286.size) = true := decide_eq_true (by omega)
          clear c24
          simp only [Option.some.injEq, Prod.mk.injEq] at H
          obtain ⟨rfl, rfl⟩ := H
          obtain ⟨Ao25, co25, eo25⟩ := Kd.R_slice HO_4.out
          subst eo25
          go_wp2_with (first | ((with_reducible refine gate_callee (f := 32) rfl ?_); refine goesL_ (some 32) rfl rfl Try.func32 (by kernel_rfl) rfl #[.slice Ao25 x4_1.length co25] rfl (by (try simp only [List.map_toArray, List.map_cons, List.map_nil]); first | done | rfl | (simp only [List.length_drop, List.length_take]; rfl)) ?_; (with_reducible refine (corporaref05_text.calls k1 _ _ x4_1 t286 _ ?side1 ?side2 A23.out).mono ?_); (case side1 => repeat (first | exact (Kd.R_reads' HO_4.out).2.2 | (with_reducible refine Kd.C_alloc ?_ _) | (with_reducible refine Kd.C_drewN ?_ _) | (with_reducible refine Kd.C_drew ?_))); (case side2 => exact (Kd.R_reads' HO_4.out).2.1); rintro e w' ⟨rfl, ⟨nd, rfl⟩⟩; refine ⟨_, rfl, ?_⟩))
          go_ret2
          exact ⟨by first | rfl | (simp [errW_none, errW_some] <;> rfl) | (simp [*, errW_none, errW_some] <;> rfl), by repeat (first | (with_reducible first | exact HB.out | apply below_alloc | apply pw_below_drewN | apply below_drew1) | exact HB.out)⟩
        · rw [if_neg c24] at H
          have c24b0 : decide (120 < (t286.size : Int)) = false := decide_eq_false c24
          have c24b1 : decide (120 < t286.size) = false := decide_eq_false (by omega)
          clear c24
          simp only [Option.some.injEq, Prod.mk.injEq] at H
          obtain ⟨rfl, rfl⟩ := H
          obtain ⟨Ao26, co26, eo26⟩ := Kd.R_slice HO_4.out
          subst eo26
          go_wp2_with (first | ((with_reducible refine gate_callee (f := 32) rfl ?_); refine goesL_ (some 32) rfl rfl Try.func32 (by kernel_rfl) rfl #[.slice Ao26 x4_1.length co26] rfl (by (try simp only [List.map_toArray, List.map_cons, List.map_nil]); first | done | rfl | (simp only [List.length_drop, List.length_take]; rfl)) ?_; (with_reducible refine (corporaref05_text.calls k1 _ _ x4_1 t286 _ ?side1 ?side2 A23.out).mono ?_); (case side1 => repeat (first | exact (Kd.R_reads' HO_4.out).2.2 | (with_reducible refine Kd.C_alloc ?_ _) | (with_reducible refine Kd.C_drewN ?_ _) | (with_reducible refine Kd.C_drew ?_))); (case side2 => exact (Kd.R_reads' HO_4.out).2.1); rintro e w' ⟨rfl, ⟨nd, rfl⟩⟩; refine ⟨_, rfl, ?_⟩))
          go_ret2
          exact ⟨by first | rfl | (simp [errW_none, errW_some] <;> rfl) | (simp [*, errW_none, errW_some] <;> rfl), by repeat (first | (with_reducible first | exact HB.out | apply below_alloc | apply pw_below_drewN | apply below_drew1) | exact HB.out)⟩

end Go.Proofs.Ytcgglamgemgeiaa.Q
/- FCorporalaw05FeatureFormats -/
namespace Go.Proofs.Ytcgglamgemgeiaa.Q
open Go.RowKit Go.Proofs.YtcgglamgemgeiaaW.PrintWords Go.Proofs.YtcgglamgemgeiaaW.PrintLast Go.Proofs.YtcgglamgemgeiaaW.PrintMore
attribute [local go_sem] max2_int min2_int max_two min_two max_three min_three max_four min_four   -- for this text's walks alone
set_option linter.unusedVariables false
set_option linter.unusedSimpArgs false

/-! ### corporalaw05_FeatureFormats: function 4 -/
def corporalaw05_FeatureFormats.f (k : Nat) (l0 : List ByteArray) : Option (Bool) := (corporalaw05_long.f k l0).bind fun t296 => (if t296 = true then (some true) else ((feature_Format.f k l0).bind fun bt297 => ((corporaref05_Format.f k l0).bind fun bt299 => (if bt297.1.toList = bt299.1.toList then (if bt297.2 = bt299.2 then ((corporalaw05_awake.f k).bind fun t301 => (some t301)) else (some false)) else (some false)))))
theorem corporalaw05_FeatureFormats.mono : ∀ a0 k, LeO (corporalaw05_FeatureFormats.f k a0) (corporalaw05_FeatureFormats.f (k + 1) a0) := by
  intro a0 k
  unfold corporalaw05_FeatureFormats.f
  repeat' first
      | (with_reducible exact corporalaw05_awake.mono _)
      | (with_reducible exact corporalaw05_long.mono _ _)
      | (with_reducible exact corporaref05_Format.mono _ _)
      | (with_reducible exact feature_Format.mono _ _)
      | (with_reducible exact LeO.refl _)
      | (with_reducible exact LeO.none _)
      | (with_reducible refine LeO.ite ?_ ?_)
      | (with_reducible refine LeO.bind ?_ (fun _ => ?_))
      | exact corporalaw05_awake.mono _
      | exact corporalaw05_long.mono _ _
      | exact corporaref05_Format.mono _ _
      | exact feature_Format.mono _ _
      | exact LeO.none _
      | refine LeO.ite ?_ ?_
      | refine LeO.bind ?_ (fun _ => ?_)
set_option maxHeartbeats 8000000 in
set_option maxRecDepth 100000 in
theorem corporalaw05_FeatureFormats.calls (k : Nat) (A0 : Option Addr) (c0 : Nat) (l0 : List ByteArray) (r : Bool) (w : World) (hr0 : Kd.C Kd.string w A0 l0.length l0) (hc0 : l0.length ≤ c0) (h : corporalaw05_FeatureFormats.f k l0 = some r) :
    Calls Try.prog 4 #[.slice A0 l0.length c0] w fun e w' => e = .returned (.bool r) ∧ Below w.heap.size w w' := by
  have HR0 := Aside0.mk hr0
  have HC0 := Aside0.mk hc0
  clear hr0 hc0
  have HB := Aside0.mk (Below.refl w.heap.size w)
  have H : ((corporalaw05_long.f k l0).bind fun t296 => (if t296 = true then (some true) else ((feature_Format.f k l0).bind fun bt297 => ((corporaref05_Format.f k l0).bind fun bt299 => (if bt297.1.toList = bt299.1.toList then (if bt297.2 = bt299.2 then ((corporalaw05_awake.f k).bind fun t301 => (some t301)) else (some false)) else (some false)))))) = some r := h
  clear h
  replace H := Option.bind_eq_some_iff.mp H
  obtain ⟨t296, A20, H⟩ := H
  replace H : (if t296 = true then (some true) else ((feature_Format.f k l0).bind fun bt297 => ((corporaref05_Format.f k l0).bind fun bt299 => (if bt297.1.toList = bt299.1.toList then (if bt297.2 = bt299.2 then ((corporalaw05_awake.f k).bind fun t301 => (some t301)) else (some false)) else (some false))))) = some r := H
  have A2 := Aside0.mk A20
  clear A20
  by_cases c3 : t296 = true
  · subst c3
    have H1 : (some true) = some r := by rw [if_pos rfl] at H; exact H
    clear H
    have H := H1
    clear H1
    obtain rfl := Option.some.inj H
    go_enter Try.func4, Try.ntmps4
    go_wp2_with (first | ((with_reducible refine gate_callee (f := 11) rfl ?_); refine goesL_ (some 8) rfl rfl Try.func11 (by kernel_rfl) rfl #[.slice A0 l0.length c0] rfl (by (try simp only [List.map_toArray, List.map_cons, List.map_nil]); first | done | rfl | (simp only [List.length_drop, List.length_take]; rfl)) ?_; (with_reducible refine (corporalaw05_long.calls k _ _ l0 true _ ?side1 ?side2 A2.out).mono ?_); (case side1 => repeat (first | exact HR0.out | (with_reducible refine Kd.C_alloc ?_ _) | (with_reducible refine Kd.C_drewN ?_ _) | (with_reducible refine Kd.C_drew ?_))); (case side2 => exact HC0.out); rintro e w' ⟨rfl, ⟨nd, rfl⟩⟩; refine ⟨_, rfl, ?_⟩))
    go_ret
    exact ⟨by first | rfl | (simp [errW_none, errW_some] <;> rfl) | (simp [*, errW_none, errW_some] <;> rfl), by repeat (first | (with_reducible first | exact HB.out | apply below_alloc | apply pw_below_drewN | apply below_drew1) | exact HB.out)⟩
  · replace c3 := Bool.eq_false_iff.mpr c3
    subst c3
    have H1 : ((feature_Format.f k l0).bind fun bt297 => ((corporaref05_Format.f k l0).bind fun bt299 => (if bt297.1.toList = bt299.1.toList then (if bt297.2 = bt299.2 then ((corporalaw05_awake.f k).bind fun t301 => (some t301)) else (some false)) else (some false)))) = some r := by rw [if_neg (show ¬ (false = true) by decide)] at H; exact H
    clear H
    have H := H1
    clear H1
    replace H := Option.bind_eq_some_iff.mp H
    obtain ⟨⟨t297, t298⟩, A40, H⟩ := H
    replace H : ((corporaref05_Format.f k l0).bind fun bt299 => (if t297.toList = bt299.1.toList then (if t298 = bt299.2 then ((corporalaw05_awake.f k).bind fun t301 => (some t301)) else (some false)) else (some false))) = some r := H
    have A4 := Aside0.mk A40
    clear A40
    replace H := Option.bind_eq_some_iff.mp H
    obtain ⟨⟨t299, t300⟩, A50, H⟩ := H
    replace H : (if t297.toList = t299.toList then (if t298 = t300 then ((corporalaw05_awake.f k).bind fun t301 => (some t301)) else (some false)) else (some false)) = some r := H
    have A5 := Aside0.mk A50
    clear A50
    by_cases c6 : t297.toList = t299.toList
    · rw [if_pos c6] at H
      have c6b0 : (t297.toList == t299.toList) = true := beq_iff_eq.mpr c6
      have c6b1 : (t297.toList != t299.toList) = false := bne_eq_false_iff_eq.mpr c6
      clear c6
      by_cases c7 : t298 = t300
      · rw [if_pos c7] at H
        have c7b0 : (t298 == t300) = true := beq_iff_eq.mpr c7
        have c7b1 : (t298 != t300) = false := bne_eq_false_iff_eq.mpr c7
        clear c7
        replace H := Option.bind_eq_some_iff.mp H
        obtain ⟨t301, A80, H⟩ := H
        replace H : (some t301) = some r := H
        have A8 := Aside0.mk A80
        clear A80
        obtain rfl := Option.some.inj H
        go_enter Try.func4, Try.ntmps4
        go_wp2_with (first | ((with_reducible refine gate_callee (f := 11) rfl ?_); refine goesL_ (some 8) rfl rfl Try.func11 (by kernel_rfl) rfl #[.slice A0 l0.length c0] rfl (by (try simp only [List.map_toArray, List.map_cons, List.map_nil]); first | done | rfl | (simp only [List.length_drop, List.length_take]; rfl)) ?_; (with_reducible refine (corporalaw05_long.calls k _ _ l0 false _ ?side1 ?side2 A2.out).mono ?_); (case side1 => repeat (first | exact HR0.out | (with_reducible refine Kd.C_alloc ?_ _) | (with_reducible refine Kd.C_drewN ?_ _) | (with_reducible refine Kd.C_drew ?_))); (case side2 => exact HC0.out); rintro e w' ⟨rfl, ⟨nd, rfl⟩⟩; refine ⟨_, rfl, ?_⟩) | ((with_reducible refine gate_callee (f := 16) rfl ?_); refine goesL_ (some 11) rfl rfl Try.func16 (by kernel_rfl) rfl #[.slice A0 l0.length c0] rfl (by (try simp only [List.map_toArray, List.map_cons, List.map_nil]); first | done | rfl | (simp only [List.length_drop, List.length_take]; rfl)) ?_; (with_reducible refine (feature_Format.calls k _ _ l0 t297 t298 _ ?side1 ?side2 A4.out).mono ?_); (case side1 => repeat (first | exact HR0.out | (with_reducible refine Kd.C_alloc ?_ _) | (with_reducible refine Kd.C_drewN ?_ _) | (with_reducible refine Kd.C_drew ?_))); (case side2 => exact HC0.out); rintro e w9 ⟨rfl, hb⟩; refine ⟨_, rfl, ?_⟩; have n0_ := Aside0.mk (below_step (by repeat (first | (with_reducible first | exact HB.out | apply below_alloc | apply pw_below_drewN | apply below_drew1) | exact HB.out)) hb); clear HB; have HB := n0_; clear n0_; (try clear hb); (try clear hb2); (try clear hk); (try clear hi)) | ((with_reducible refine gate_callee (f := 17) rfl ?_); refine goesL_ (some 16) rfl rfl Try.func17 (by kernel_rfl) rfl #[.slice A0 l0.length c0] rfl (by (try simp only [List.map_toArray, List.map_cons, List.map_nil]); first | done | rfl | (simp only [List.length_drop, List.length_take]; rfl)) ?_; (with_reducible refine (corporaref05_Format.calls k _ _ l0 t299 t300 _ ?side1 ?side2 A5.out).mono ?_); (case side1 => repeat (first | exact (Kd.C_below HR0.out HB.out) | (with_reducible refine Kd.C_alloc ?_ _) | (with_reducible refine Kd.C_drewN ?_ _) | (with_reducible refine Kd.C_drew ?_))); (case side2 => exact HC0.out); rintro e w10 ⟨rfl, hb⟩; refine ⟨_, rfl, ?_⟩; have n0_ := Aside0.mk (below_step (by repeat (first | (with_reducible first | exact HB.out | apply below_alloc | apply pw_below_drewN | apply below_drew1) | exact HB.out)) hb); clear HB; have HB := n0_; clear n0_; (try clear hb); (try clear hb2); (try clear hk); (try clear hi)) | (go_at_call 15; (with_reducible refine (corporalaw05_awake.calls k  t301 _ A8.out).mono ?_); rintro e w11 ⟨rfl, hb⟩; have n0_ := Aside0.mk (below_step (by repeat (first | (with_reducible first | exact HB.out | apply below_alloc | apply pw_below_drewN | apply below_drew1) | exact HB.out)) hb); clear HB; have HB := n0_; clear n0_; (try clear hb); (try clear hb2); (try clear hk); (try clear hi)))
        go_ret
        exact ⟨by first | rfl | (simp [errW_none, errW_some] <;> rfl) | (simp [*, errW_none, errW_some] <;> rfl), by repeat (first | (with_reducible first | exact HB.out | apply below_alloc | apply pw_below_drewN | apply below_drew1) | exact HB.out)⟩
      · rw [if_neg c7] at H
        have c7b0 : (t298 == t300) = false := beq_eq_false_iff_ne.mpr c7
        have c7b1 : (t298 != t300) = true := bne_iff_ne.mpr c7
        obtain rfl := Option.some.inj H
        go_enter Try.func4, Try.ntmps4
        go_wp2_with (first | ((with_reducible refine gate_callee (f := 11) rfl ?_); refine goesL_ (some 8) rfl rfl Try.func11 (by kernel_rfl) rfl #[.slice A0 l0.length c0] rfl (by (try simp only [List.map_toArray, List.map_cons, List.map_nil]); first | done | rfl | (simp only [List.length_drop, List.length_take]; rfl)) ?_; (with_reducible refine (corporalaw05_long.calls k _ _ l0 false _ ?side1 ?side2 A2.out).mono ?_); (case side1 => repeat (first | exact HR0.out | (with_reducible refine Kd.C_alloc ?_ _) | (with_reducible refine Kd.C_drewN ?_ _) | (with_reducible refine Kd.C_drew ?_))); (case side2 => exact HC0.out); rintro e w' ⟨rfl, ⟨nd, rfl⟩⟩; refine ⟨_, rfl, ?_⟩) | ((with_reducible refine gate_callee (f := 16) rfl ?_); refine goesL_ (some 11) rfl rfl Try.func16 (by kernel_rfl) rfl #[.slice A0 l0.length c0] rfl (by (try simp only [List.map_toArray, List.map_cons, List.map_nil]); first | done | rfl | (simp only [List.length_drop, List.length_take]; rfl)) ?_; (with_reducible refine (feature_Format.calls k _ _ l0 t297 t298 _ ?side1 ?side2 A4.out).mono ?_); (case side1 => repeat (first | exact HR0.out | (with_reducible refine Kd.C_alloc ?_ _) | (with_reducible refine Kd.C_drewN ?_ _) | (with_reducible refine Kd.C_drew ?_))); (case side2 => exact HC0.out); rintro e w12 ⟨rfl, hb⟩; refine ⟨_, rfl, ?_⟩; have n0_ := Aside0.mk (below_step (by repeat (first | (with_reducible first | exact HB.out | apply below_alloc | apply pw_below_drewN | apply below_drew1) | exact HB.out)) hb); clear HB; have HB := n0_; clear n0_; (try clear hb); (try clear hb2); (try clear hk); (try clear hi)) | ((with_reducible refine gate_callee (f := 17) rfl ?_); refine goesL_ (some 16) rfl rfl Try.func17 (by kernel_rfl) rfl #[.slice A0 l0.length c0] rfl (by (try simp only [List.map_toArray, List.map_cons, List.map_nil]); first | done | rfl | (simp only [List.length_drop, List.length_take]; rfl)) ?_; (with_reducible refine (corporaref05_Format.calls k _ _ l0 t299 t300 _ ?side1 ?side2 A5.out).mono ?_); (case side1 => repeat (first | exact (Kd.C_below HR0.out HB.out) | (with_reducible refine Kd.C_alloc ?_ _) | (with_reducible refine Kd.C_drewN ?_ _) | (with_reducible refine Kd.C_drew ?_))); (case side2 => exact HC0.out); rintro e w13 ⟨rfl, hb⟩; refine ⟨_, rfl, ?_⟩; have n0_ := Aside0.mk (below_step (by repeat (first | (with_reducible first | exact HB.out | apply below_alloc | apply pw_below_drewN | apply below_drew1) | exact HB.out)) hb); clear HB; have HB := n0_; clear n0_; (try clear hb); (try clear hb2); (try clear hk); (try clear hi)))
        go_ret
        exact ⟨by first | rfl | (simp [errW_none, errW_some] <;> rfl) | (simp [*, errW_none, errW_some] <;> rfl), by repeat (first | (with_reducible first | exact HB.out | apply below_alloc | apply pw_below_drewN | apply below_drew1) | exact HB.out)⟩
    · rw [if_neg c6] at H
      have c6b0 : (t297.toList == t299.toList) = false := beq_eq_false_iff_ne.mpr c6
      have c6b1 : (t297.toList != t299.toList) = true := bne_iff_ne.mpr c6
      obtain rfl := Option.some.inj H
      go_enter Try.func4, Try.ntmps4
      go_wp2_with (first | ((with_reducible refine gate_callee (f := 11) rfl ?_); refine goesL_ (some 8) rfl rfl Try.func11 (by kernel_rfl) rfl #[.slice A0 l0.length c0] rfl (by (try simp only [List.map_toArray, List.map_cons, List.map_nil]); first | done | rfl | (simp only [List.length_drop, List.length_take]; rfl)) ?_; (with_reducible refine (corporalaw05_long.calls k _ _ l0 false _ ?side1 ?side2 A2.out).mono ?_); (case side1 => repeat (first | exact HR0.out | (with_reducible refine Kd.C_alloc ?_ _) | (with_reducible refine Kd.C_drewN ?_ _) | (with_reducible refine Kd.C_drew ?_))); (case side2 => exact HC0.out); rintro e w' ⟨rfl, ⟨nd, rfl⟩⟩; refine ⟨_, rfl, ?_⟩) | ((with_reducible refine gate_callee (f := 16) rfl ?_); refine goesL_ (some 11) rfl rfl Try.func16 (by kernel_rfl) rfl #[.slice A0 l0.length c0] rfl (by (try simp only [List.map_toArray, List.map_cons, List.map_nil]); first | done | rfl | (simp only [List.length_drop, List.length_take]; rfl)) ?_; (with_reducible refine (feature_Format.calls k _ _ l0 t297 t298 _ ?side1 ?side2 A4.out).mono ?_); (case side1 => repeat (first | exact HR0.out | (with_reducible refine Kd.C_alloc ?_ _) | (with_reducible refine Kd.C_drewN ?_ _) | (with_reducible refine Kd.C_drew ?_))); (case side2 => exact HC0.out); rintro e w14 ⟨rfl, hb⟩; refine ⟨_, rfl, ?_⟩; have n0_ := Aside0.mk (below_step (by repeat (first | (with_reducible first | exact HB.out | apply below_alloc | apply pw_below_drewN | apply below_drew1) | exact HB.out)) hb); clear HB; have HB := n0_; clear n0_; (try clear hb); (try clear hb2); (try clear hk); (try clear hi)) | ((with_reducible refine gate_callee (f := 17) rfl ?_); refine goesL_ (some 16) rfl rfl Try.func17 (by kernel_rfl) rfl #[.slice A0 l0.length c0] rfl (by (try simp only [List.map_toArray, List.map_cons, List.map_nil]); first | done | rfl | (simp only [List.length_drop, List.length_take]; rfl)) ?_; (with_reducible refine (corporaref05_Format.calls k _ _ l0 t299 t300 _ ?side1 ?side2 A5.out).mono ?_); (case side1 => repeat (first | exact (Kd.C_below HR0.out HB.out) | (with_reducible refine Kd.C_alloc ?_ _) | (with_reducible refine Kd.C_drewN ?_ _) | (with_reducible refine Kd.C_drew ?_))); (case side2 => exact HC0.out); rintro e w15 ⟨rfl, hb⟩; refine ⟨_, rfl, ?_⟩; have n0_ := Aside0.mk (below_step (by repeat (first | (with_reducible first | exact HB.out | apply below_alloc | apply pw_below_drewN | apply below_drew1) | exact HB.out)) hb); clear HB; have HB := n0_; clear n0_; (try clear hb); (try clear hb2); (try clear hk); (try clear hi)))
      go_ret
      exact ⟨by first | rfl | (simp [errW_none, errW_some] <;> rfl) | (simp [*, errW_none, errW_some] <;> rfl), by repeat (first | (with_reducible first | exact HB.out | apply below_alloc | apply pw_below_drewN | apply below_drew1) | exact HB.out)⟩

end Go.Proofs.Ytcgglamgemgeiaa.Q
/- FLaws -/
namespace Go.Proofs.Ytcgglamgemgeiaa.Q
open Go.Lib
theorem text_inj {l m : List ByteArray} (hl : ∀ f ∈ l, Feat f) (hm : ∀ f ∈ m, Feat f) (h : text l = text m) : l = m := by
  have h1 : tailT l = tailT m := by
    have := congrArg bl h
    rw [bl_text, bl_text] at this
    exact (List.cons.inj this).2
  have h2 := spl_tail l (fun f hf => ⟨(hl f hf).2.1, (hl f hf).2.2⟩)
  have h3 := spl_tail m (fun f hf => ⟨(hm f hf).2.1, (hm f hf).2.2⟩)
  rw [h1, h3] at h2
  have h4 := congrArg (List.map mkB) (Option.some.inj h2)
  have e : ∀ k : List ByteArray, (k.map bl).map mkB = k := fun k => by
    rw [List.map_map]
    conv => rhs; rw [← List.map_id k]
    exact List.map_congr_left (fun x _ => mkB_bl x)
  rw [e, e] at h4
  exact h4.symm
theorem tail_sub {l m : List ByteArray} (h : l.Sublist m) : (tailT l).length ≤ (tailT m).length := by
  induction h with
  | slnil => exact Nat.le_refl _
  | cons a h ih => simp only [tailT, List.length_append, List.length_cons]; omega
  | cons_cons a h ih => simp only [tailT, List.length_append, List.length_cons]; omega
theorem text_sub {l m : List ByteArray} (h : l.Sublist m) : (text l).size ≤ (text m).size := by
  rw [size_text, size_text]; have := tail_sub h; omega
theorem FM_congr {l m : List ByteArray} (hl : ∀ f ∈ l, Feat f) (hm : ∀ x, x ∈ m ↔ x ∈ l) : FM m = FM l := by
  rw [FM_feat hl, FM_feat (fun f hf => hl f ((hm f).1 hf)), nrm_congr hm]
theorem FM_same {s : ByteArray} {l m : List ByteArray} (h : PR s = (l, 0)) (hm : ∀ x, x ∈ m ↔ x ∈ l) : FM m = (s, 0) := by
  obtain ⟨h1, h2, h3, h4⟩ := PR_ok h
  rw [FM_feat (fun f hf => h3 f ((hm f).1 hf)), nrm_of_ss h2 hm, ← h1, if_neg (by omega)]
/-- A list of features that is what two sets' features are joined to. -/
theorem app_feat {x y : List ByteArray} (hx : ∀ f ∈ x, Feat f) (hy : ∀ f ∈ y, Feat f) : ∀ f ∈ x ++ y, Feat f := fun f hf => (List.mem_append.1 hf).elim (hx f) (hy f)
theorem UN_def {a b : ByteArray} {x y : List ByteArray} (ha : PR a = (x, 0)) (hb : PR b = (y, 0)) : UN a b = FM (x ++ y) := by
  unfold UN; rw [ha, hb]; simp
theorem IS_def {a b : ByteArray} {x y : List ByteArray} (ha : PR a = (x, 0)) (hb : PR b = (y, 0)) : IS a b = (text (x.filter (memb y)), 0) := by
  unfold IS; rw [ha, hb]; simp
theorem SB_def {a b : ByteArray} {x y : List ByteArray} (ha : PR a = (x, 0)) (hb : PR b = (y, 0)) : SB a b = (x.all (memb y), 0) := by
  unfold SB; rw [ha, hb]; simp
theorem two_ok {α : Type} {a b : ByteArray} {d : α} {r : α × Int} (h : (if (PR a).2 ≠ 0 then (d, (PR a).2) else if (PR b).2 ≠ 0 then (d, (PR b).2) else r).2 = 0) : ∃ x y, PR a = (x, 0) ∧ PR b = (y, 0) := by
  by_cases h1 : (PR a).2 = 0
  · by_cases h2 : (PR b).2 = 0
    · exact ⟨_, _, PR_eta h1, PR_eta h2⟩
    · rw [if_neg (by simp [h1]), if_pos h2] at h; exact absurd h h2
  · rw [if_pos h1] at h; exact absurd h h1
theorem filter_text {a : ByteArray} {x : List ByteArray} (ha : PR a = (x, 0)) (p : ByteArray → Bool) : PR (text (x.filter p)) = (x.filter p, 0) := by
  obtain ⟨h1, h2, h3, h4⟩ := PR_ok ha
  refine PR_text (h2.filter p) (fun f hf => h3 f (List.mem_filter.1 hf).1) ?_
  have := text_sub (List.filter_sublist (p := p) (l := x))
  rw [h1] at h4; omega
theorem UN_ok {a b : ByteArray} {x y : List ByteArray} (ha : PR a = (x, 0)) (hb : PR b = (y, 0)) (h : (UN a b).2 = 0) : (UN a b).1 = text (nrm (x ++ y)) ∧ PR (UN a b).1 = (nrm (x ++ y), 0) := by
  have hf := app_feat (PR_ok ha).2.2.1 (PR_ok hb).2.2.1
  rw [UN_def ha hb, FM_feat hf] at h ⊢
  by_cases hs : 120 < (text (nrm (x ++ y))).size
  · rw [if_pos hs] at h; cases h
  · rw [if_neg hs]
    exact ⟨rfl, PR_text (nrm_ss _) (fun f hf' => hf f ((nrm_mem _ _).1 hf')) (by omega)⟩
theorem un_assoc {a b c : ByteArray} (h1 : (UN a b).2 = 0) (h2 : (UN c b).2 = 0) : UN (UN a b).1 c = UN a (UN c b).1 := by
  obtain ⟨x, y, ha, hb⟩ := two_ok h1
  obtain ⟨z, y', hc, hb'⟩ := two_ok h2
  obtain rfl : y = y' := by rw [hb] at hb'; exact (Prod.mk.inj hb').1
  have hu := (UN_ok ha hb h1).2
  have hv := (UN_ok hc hb h2).2
  rw [UN_def hu hc, UN_def ha hv]
  refine FM_congr (app_feat (PR_ok ha).2.2.1 (fun f hf => app_feat (PR_ok hc).2.2.1 (PR_ok hb).2.2.1 f ((nrm_mem _ _).1 hf))) (fun f => ?_)
  simp only [List.mem_append, nrm_mem]
  constructor
  · rintro ((h | h) | h)
    · exact .inl h
    · exact .inr (.inr h)
    · exact .inr (.inl h)
  · rintro (h | h | h)
    · exact .inl (.inl h)
    · exact .inr h
    · exact .inl (.inr h)
theorem is_assoc {a b c : ByteArray} (h1 : (IS a b).2 = 0) (h2 : (IS c b).2 = 0) : IS (IS a b).1 c = IS a (IS c b).1 := by
  obtain ⟨x, y, ha, hb⟩ := two_ok h1
  obtain ⟨z, y', hc, hb'⟩ := two_ok h2
  obtain rfl : y = y' := by rw [hb] at hb'; exact (Prod.mk.inj hb').1
  rw [IS_def ha hb, IS_def hc hb]
  rw [IS_def (filter_text ha _) hc, IS_def ha (filter_text hc _), List.filter_filter]
  congr 2
  refine List.filter_congr (fun f _ => ?_)
  rw [Bool.eq_iff_iff]
  simp only [Bool.and_eq_true, memb_iff, List.mem_filter]
theorem HS_iff {s f : ByteArray} {l : List ByteArray} (h : PR s = (l, 0)) : HS s f = true ↔ f ∈ l := by
  unfold HS; rw [h]; simp [memb_iff]
theorem un_member {a b f : ByteArray} (h : (UN a b).2 = 0) : HS (UN a b).1 f = (HS a f || HS b f) := by
  obtain ⟨x, y, ha, hb⟩ := two_ok h
  have hu := (UN_ok ha hb h).2
  rw [Bool.eq_iff_iff, HS_iff hu, Bool.or_eq_true, HS_iff ha, HS_iff hb, nrm_mem, List.mem_append]
theorem is_member {a b f : ByteArray} (h : (IS a b).2 = 0) : HS (IS a b).1 f = (HS a f && HS b f) := by
  obtain ⟨x, y, ha, hb⟩ := two_ok h
  rw [Bool.eq_iff_iff, IS_def ha hb, HS_iff (filter_text ha _), Bool.and_eq_true, HS_iff ha, HS_iff hb, List.mem_filter, memb_iff]
theorem all_memb {x y : List ByteArray} : x.all (memb y) = true ↔ ∀ f ∈ x, f ∈ y := by
  rw [List.all_eq_true]
  exact ⟨fun h f hf => memb_iff.1 (h f hf), fun h f hf => memb_iff.2 (h f hf)⟩
theorem sb_is {a b : ByteArray} (h : (SB a b).2 = 0) : (IS a b).2 = 0 ∧ ((IS a b).1 = a ↔ (SB a b).1 = true) := by
  obtain ⟨x, y, ha, hb⟩ := two_ok h
  rw [IS_def ha hb, SB_def ha hb]
  refine ⟨rfl, ?_⟩
  rw [all_memb]
  have hx := PR_ok ha
  constructor
  · intro e f hf
    have e2 : text (x.filter (memb y)) = text x := by rw [← hx.1]; exact e
    have e3 := text_inj (fun f hf => hx.2.2.1 f (List.mem_filter.1 hf).1) hx.2.2.1 e2
    rw [← e3] at hf
    exact memb_iff.1 (List.mem_filter.1 hf).2
  · intro hall
    have : x.filter (memb y) = x := List.filter_eq_self.2 (fun f hf => memb_iff.2 (hall f hf))
    show text (x.filter (memb y)) = a
    rw [this, ← hx.1]
theorem sb_un {a b : ByteArray} (h : (SB a b).2 = 0) : ((UN a b).2 = 0 ∧ ((UN a b).1 = b ↔ (SB a b).1 = true)) ∨ ((UN a b).2 = 2 ∧ (SB a b).1 = false) := by
  obtain ⟨x, y, ha, hb⟩ := two_ok h
  have hx := PR_ok ha
  have hy := PR_ok hb
  have hf := app_feat hx.2.2.1 hy.2.2.1
  have key : (SB a b).1 = true → UN a b = (b, 0) := fun hs => by
    rw [SB_def ha hb] at hs
    rw [UN_def ha hb]
    refine FM_same hb (fun f => ?_)
    rw [List.mem_append]
    exact ⟨fun hh => hh.elim (all_memb.1 hs f) id, .inr⟩
  cases hs : (SB a b).1 with
  | true =>
    left
    rw [key hs]
    exact ⟨rfl, by simp⟩
  | false =>
    by_cases h0 : (UN a b).2 = 0
    · left
      refine ⟨h0, ?_⟩
      constructor
      · intro e
        exfalso
        have hu := UN_ok ha hb h0
        rw [e, hb] at hu
        have e2 : y = nrm (x ++ y) := (Prod.mk.inj hu.2).1
        rw [SB_def ha hb] at hs
        have : x.all (memb y) = true := all_memb.2 (fun f hf => by rw [e2, nrm_mem]; exact List.mem_append.2 (.inl hf))
        simp only at hs
        rw [this] at hs; cases hs
      · intro hh; cases hh
    · right
      refine ⟨?_, rfl⟩
      rw [UN_def ha hb, FM_feat hf] at h0 ⊢
      by_cases hz : 120 < (text (nrm (x ++ y))).size
      · rw [if_pos hz]
      · rw [if_neg hz] at h0; exact absurd rfl h0
end Go.Proofs.Ytcgglamgemgeiaa.Q
/- FFeatureContains -/
namespace Go.Proofs.Ytcgglamgemgeiaa.Q
open Go.RowKit Go.Proofs.YtcgglamgemgeiaaW.PrintWords Go.Proofs.YtcgglamgemgeiaaW.PrintLast Go.Proofs.YtcgglamgemgeiaaW.PrintMore
attribute [local go_sem] max2_int min2_int max_two min_two max_three min_three max_four min_four   -- for this text's walks alone
set_option linter.unusedVariables false
set_option linter.unusedSimpArgs false

/-! ### feature_contains: function 33 -/
def feature_contains.l0 : Nat → ByteArray → List ByteArray → Int → Int → Option (Bool)
  | 0, _, _, _, _ => none
  | k + 1, x1, x7, x8, x9 => if x9 < x8 then (if 0 ≤ x9 then (if x9 < (x7.length : Int) then (if (rdOf ByteArray.empty x7 x9).toList = x1.toList then (some true) else (feature_contains.l0 k x1 x7 x8 (wrap64 (x9 + 1)))) else (none)) else (none)) else (some false)
def feature_contains.f (k : Nat) (l0 : List ByteArray) (a1 : ByteArray) : Option (Bool) := feature_contains.l0 k a1 l0 (l0.length : Int) 0
theorem feature_contains.mono_l : ∀ k, (∀ y0 y1 y2 y3, LeO (feature_contains.l0 k y0 y1 y2 y3) (feature_contains.l0 (k + 1) y0 y1 y2 y3))
  | 0 => fun _ _ _ _ r h => by simp [feature_contains.l0] at h
  | k + 1 => by
    have ih0 := feature_contains.mono_l k
    · intro y0 y1 y2 y3
      unfold feature_contains.l0
      repeat' first
      | (with_reducible exact ih0 _ _ _ _)
      | (with_reducible exact LeO.refl _)
      | (with_reducible exact LeO.none _)
      | (with_reducible refine LeO.ite ?_ ?_)
      | (with_reducible refine LeO.bind ?_ (fun _ => ?_))
      | exact ih0 _ _ _ _
      | exact LeO.none _
      | refine LeO.ite ?_ ?_
      | refine LeO.bind ?_ (fun _ => ?_)
theorem feature_contains.mono : ∀ a0 a1 k, LeO (feature_contains.f k a0 a1) (feature_contains.f (k + 1) a0 a1) := by
  intro a0 a1 k
  have ih0 := feature_contains.mono_l k
  unfold feature_contains.f
  repeat' first
      | (with_reducible exact ih0 _ _ _ _)
      | (with_reducible exact LeO.refl _)
      | (with_reducible exact LeO.none _)
      | (with_reducible refine LeO.ite ?_ ?_)
      | (with_reducible refine LeO.bind ?_ (fun _ => ?_))
      | exact ih0 _ _ _ _
      | exact LeO.none _
      | refine LeO.ite ?_ ?_
      | refine LeO.bind ?_ (fun _ => ?_)
set_option maxHeartbeats 8000000 in
set_option maxRecDepth 100000 in
theorem feature_contains.calls (k : Nat) (A0 : Option Addr) (c0 : Nat) (l0 : List ByteArray) (a1 : ByteArray) (r : Bool) (w : World) (hr0 : Kd.C Kd.string w A0 l0.length l0) (hc0 : l0.length ≤ c0) (h : feature_contains.f k l0 a1 = some r) :
    Calls Try.prog 33 #[.slice A0 l0.length c0, .string a1] w fun e w' => e = .returned (.bool r) ∧ Drawn0 w w' := by
  have HR0 := Aside0.mk hr0
  have HC0 := Aside0.mk hc0
  clear hr0 hc0
  have H : (feature_contains.l0 k a1 l0 (l0.length : Int) 0) = some r := h
  clear h
  have H' := Aside0.mk H
  clear H
  go_enter Try.func33, Try.ntmps33
  go_wp2
  go_loopg [9] k (fun kq v9 w' => ∃ (x9_1 : Int), v9 = .int .i64 x9_1 ∧ Aside0 (feature_contains.l0 kq a1 l0 (l0.length : Int) x9_1 = some r) ∧ Aside0 (kq ≤ k) ∧ Drawn0 w w')
  case atStart => exact ⟨(0), (by first | rfl | (simp; done) | (simp [*]; done)), H', ⟨Nat.le_refl _⟩, by repeat (first | exact Drawn0.refl _ | apply Drawn0.step)⟩
  case round =>
    clear H'
    try clear p2
    obtain ⟨x9_1, rfl, HA, HK1, ⟨m1, rfl⟩⟩ := hrel
    cases gk with
    | zero => exact absurd HA.out (by simp [feature_contains.l0])
    | succ k1 =>
      have H := HA.out
      clear HA
      simp only [feature_contains.l0] at H
      by_cases c3 : x9_1 < (l0.length : Int)
      · rw [if_pos c3] at H
        have c3b0 : decide (x9_1 < (l0.length : Int)) = true := decide_eq_true c3
        clear c3
        by_cases c4 : 0 ≤ x9_1
        · rw [if_pos c4] at H
          have c4b0 : decide (0 ≤ x9_1) = true := decide_eq_true c4
          clear c4
          by_cases c5 : x9_1 < (l0.length : Int)
          · rw [if_pos c5] at H
            have c5b0 : decide (x9_1 < (l0.length : Int)) = true := decide_eq_true c5
            clear c5
            by_cases c6 : (rdOf ByteArray.empty l0 x9_1).toList = a1.toList
            · rw [if_pos c6] at H
              have c6b0 : ((rdOf ByteArray.empty l0 x9_1).toList == a1.toList) = true := beq_iff_eq.mpr c6
              have c6b1 : ((rdOf ByteArray.empty l0 x9_1).toList != a1.toList) = false := bne_eq_false_iff_eq.mpr c6
              clear c6
              obtain rfl := Option.some.inj H
              have p320 : 0 ≤ (x9_1 : Int) := of_decide_eq_true (by first | (with_reducible assumption) | assumption)
              have q320 : x9_1 < (l0.length : Int) := of_decide_eq_true (by first | (with_reducible assumption) | assumption)
              obtain ⟨ad320, e320, hx320_0⟩ := Kd.at_string HR0.out x9_1 p320 q320
              cases e320
              replace p320 := eq_true p320
              replace q320 := eq_true q320
              go_wp2
              go_ret
              exact ⟨by first | rfl | (simp; done) | (simp [*]; done), by repeat (first | exact Drawn0.refl _ | apply Drawn0.step)⟩
            · rw [if_neg c6] at H
              have c6b0 : ((rdOf ByteArray.empty l0 x9_1).toList == a1.toList) = false := beq_eq_false_iff_ne.mpr c6
              have c6b1 : ((rdOf ByteArray.empty l0 x9_1).toList != a1.toList) = true := bne_iff_ne.mpr c6
              have H' := Aside0.mk H
              clear H
              have p320 : 0 ≤ (x9_1 : Int) := of_decide_eq_true (by first | (with_reducible assumption) | assumption)
              have q320 : x9_1 < (l0.length : Int) := of_decide_eq_true (by first | (with_reducible assumption) | assumption)
              obtain ⟨ad320, e320, hx320_0⟩ := Kd.at_string HR0.out x9_1 p320 q320
              cases e320
              replace p320 := eq_true p320
              replace q320 := eq_true q320
              go_wp2
              go_roundg k1
              case measure => have := HK1.out; omega
              case rel => exact ⟨(wrap64 (x9_1 + 1)), (by first | rfl | (simp; done) | (simp [*]; done)), H', ⟨by have := HK1.out; omega⟩, by repeat (first | exact Drawn0.refl _ | apply Drawn0.step)⟩
          · rw [if_neg c5] at H
            exact absurd H (by simp)
        · rw [if_neg c4] at H
          exact absurd H (by simp)
      · rw [if_neg c3] at H
        have c3b0 : decide (x9_1 < (l0.length : Int)) = false := decide_eq_false c3
        clear c3
        obtain rfl := Option.some.inj H
        go_wp2
        go_ret
        exact ⟨by first | rfl | (simp; done) | (simp [*]; done), by repeat (first | exact Drawn0.refl _ | apply Drawn0.step)⟩

end Go.Proofs.Ytcgglamgemgeiaa.Q
/- FEv -/
namespace Go.Proofs.Ytcgglamgemgeiaa.Q
open Go.RowKit Go.Lib Go.Proofs.YtcgglamgemgeiaaW.PrintWords Go.Proofs.YtcgglamgemgeiaaW.PrintLast
theorem bt_nat {s : ByteArray} {i : Nat} (h : i < (bl s).length) : bt s (i : Int) = ((bl s)[i].toNat : Int) := by
  have h' : i < s.size := by rw [← bl_length]; exact h
  unfold bt
  rw [dif_pos (by rw [Int.toNat_natCast]; exact h')]
  rfl
theorem bt_124 {s : ByteArray} {i : Nat} (h : i < (bl s).length) : (bt s (i : Int) = 124) ↔ (bl s)[i] = 124 := by
  rw [bt_nat h]
  constructor
  · intro e
    exact UInt8.toNat_inj.1 (by rw [show (124 : UInt8).toNat = 124 from rfl]; omega)
  · intro e; rw [e]; rfl
theorem bl_extract (s : ByteArray) (a b : Nat) : bl (s.extract a b) = ((bl s).drop a).take (b - a) := extract_data s a b
/-! ### Parse -/
/-- Whether a list is sorted, as Parse answers. -/
def SR (l : List ByteArray) : List ByteArray × Int := if srt l = true then (l, 0) else ([], 6)
theorem srt_short {l : List ByteArray} (h : l.length ≤ 1) : srt l = true := by
  match l, h with
  | [], _ => rfl
  | [_], _ => rfl
  | _ :: _ :: _, h => simp at h
theorem parse_l1 (l : List ByteArray) (hl : l.length ≤ 1073741824) : ∀ d i : Nat, 1 ≤ i → i + d = l.length + 1 → Ev (fun k => feature_Parse.l1 k l (i : Int)) (if srt (l.drop (i - 1)) = true then (l, 0) else ([], 6)) := by
  intro d
  induction d with
  | zero =>
    intro i h1 hd
    refine Ev.step (fun k => by rw [feature_Parse.l1]) ?_
    rw [srt_short (by rw [List.length_drop]; omega), if_pos rfl]
    exact ev_neg (by omega) (Ev.now _)
  | succ d ih =>
    intro i h1 hd
    refine Ev.step (fun k => by rw [feature_Parse.l1]) ?_
    by_cases hi : i < l.length
    · refine ev_pos (by omega) ?_
      rw [wrap_dn i h1 (by omega)]
      refine ev_pos (by omega) (ev_pos (by omega) (ev_pos (by omega) ?_))
      rw [rd_nat (show i - 1 < l.length by omega), rd_nat hi, lt_eq]
      have e : l.drop (i - 1) = l[i - 1] :: l[i] :: l.drop (i + 1) := by
        rw [List.drop_eq_getElem_cons (show i - 1 < l.length by omega)]
        have : i - 1 + 1 = i := by omega
        rw [this, List.drop_eq_getElem_cons hi]
      have e2 : l.drop (i + 1 - 1) = l[i] :: l.drop (i + 1) := by rw [Nat.add_sub_cancel, List.drop_eq_getElem_cons hi]
      by_cases hlt : lt l[i - 1] l[i] = true
      · refine ev_pos hlt ?_
        rw [wrap_up i (by omega), e, srt, hlt, Bool.true_and, ← e2]
        exact ih (i + 1) (by omega) (by omega)
      · refine ev_neg hlt ?_
        rw [e, srt]
        have : lt l[i - 1] l[i] = false := by simpa using hlt
        rw [this, Bool.false_and]
        exact Ev.now _
    · obtain rfl : i = l.length := by omega
      rw [srt_short (by rw [List.length_drop]; omega), if_pos rfl]
      exact ev_neg (by omega) (Ev.now _)
/-- What is left of Parse from a place on. -/
def PL (acc : List ByteArray) (r cur : List UInt8) : List ByteArray × Int :=
  match spl r cur with
  | none => ([], 3)
  | some l => SR (acc ++ l.map mkB)
theorem parse_l0 (s : ByteArray) (hs : s.size ≤ 120) : ∀ (d i frm : Nat) (acc : List ByteArray), 1 ≤ frm → frm ≤ i → i + d = s.size → acc.length ≤ i →
    Ev (fun k => feature_Parse.l0 k s acc (frm : Int) (i : Int)) (PL acc ((bl s).drop i) (((bl s).drop frm).take (i - frm))) := by
  intro d
  induction d with
  | zero =>
    intro i frm acc h0 h1 hd ha
    refine Ev.step (fun k => by rw [feature_Parse.l0]) ?_
    refine ev_neg (by omega) ?_
    have : (bl s).drop i = [] := List.drop_eq_nil_of_le (by rw [bl_length]; omega)
    rw [this]
    have := parse_l1 acc (by omega) acc.length 1 (by omega) (by omega)
    unfold PL spl SR
    simpa using this
  | succ d ih =>
    intro i frm acc h0 h1 hd ha
    have hi : i < (bl s).length := by rw [bl_length]; omega
    refine Ev.step (fun k => by rw [feature_Parse.l0]) ?_
    refine ev_pos (by omega) (ev_pos (by omega) ?_)
    rw [List.drop_eq_getElem_cons hi]
    by_cases hb : (bl s)[i] = 124
    · refine ev_pos ((bt_124 hi).2 hb) ?_
      by_cases he : i = frm
      · refine ev_pos (by omega) ?_
        subst he
        unfold PL
        rw [Nat.sub_self, List.take_zero, spl, if_pos hb, if_pos rfl]
        exact Ev.now _
      · refine ev_neg (by omega) (ev_pos (by omega) (ev_pos (by omega) (ev_pos (by omega) (ev_pos (by omega) ?_))))
        rw [wrap_up i (by omega), Int.toNat_natCast, Int.toNat_natCast]
        refine ev_eq (ih (i + 1) (i + 1) _ (by omega) (by omega) (by omega) (by rw [List.length_append, List.length_singleton]; omega)) ?_
        unfold PL
        rw [Nat.sub_self, List.take_zero, spl, if_pos hb]
        have hne : ((bl s).drop frm).take (i - frm) ≠ [] := by
          intro h
          have := congrArg List.length h
          rw [List.length_take, List.length_drop, bl_length] at this
          simp at this; omega
        rw [if_neg hne]
        cases hsp : spl ((bl s).drop (i + 1)) [] with
        | none => rfl
        | some m =>
          have : s.extract frm i = mkB (((bl s).drop frm).take (i - frm)) := bl_inj (by rw [bl_mkB, bl_extract])
          simp [this]
    · refine ev_neg (fun h => hb ((bt_124 hi).1 h)) ?_
      rw [wrap_up i (by omega)]
      refine ev_eq (ih (i + 1) frm _ h0 (by omega) (by omega) (by omega)) ?_
      unfold PL
      rw [spl, if_neg hb]
      have : ((bl s).drop frm).take (i + 1 - frm) = ((bl s).drop frm).take (i - frm) ++ [(bl s)[i]] := by
        have e1 : i + 1 - frm = (i - frm) + 1 := by omega
        have : frm + (i - frm) = i := by omega
        rw [e1, List.take_add_one, List.getElem?_drop, this, List.getElem?_eq_getElem hi]
        rfl
      rw [this]
theorem parse_ev (s : ByteArray) : Ev (fun k => feature_Parse.f k s) (PR s) := by
  unfold feature_Parse.f markup_ValidValue.f
  refine ev_some ?_
  by_cases h0 : vv s = 0
  · refine ev_pos h0 ?_
    have hz := (vv_zero.1 h0).1
    have hpr : PR s = if (bl s).head? ≠ some 124 ∨ (bl s).getLast? ≠ some 124 then ([], 3) else PL [] (bl s).tail [] := by
      unfold PR PL SR
      rw [if_neg (by simp [h0])]
      first
        | (simp only [List.nil_append]; done)
        | (simp only [List.nil_append]; rfl)
    have three : ∀ {r : List ByteArray × Int}, r = ([], 3) → Ev (fun k => feature_Parse.j0 k s true) r := fun h => Ev.step (fun k => by rw [feature_Parse.j0]) (ev_pos rfl (ev_now h.symm))
    rw [hpr]
    rw [toList_bl]
    by_cases h1 : bl s = [124]
    · refine ev_pos h1 (ev_now ?_)
      rw [h1]; simp [PL, spl, SR, srt]
    · refine ev_neg h1 ?_
      by_cases h2 : (s.size : Int) < 2
      · refine ev_pos h2 (three ?_)
        refine if_pos (.inl ?_)
        have hl := bl_length s
        match hb : bl s with
        | [] => simp
        | [b] => rw [hb] at h1; simp at h1 ⊢; exact h1
        | _ :: _ :: _ => rw [hb] at hl; simp at hl; omega
      · refine ev_neg h2 (ev_pos (by omega) ?_)
        have hl := bl_length s
        have k0 : 0 < (bl s).length := by omega
        have k1 : s.size - 1 < (bl s).length := by omega
        have e0 : (bl s).head? = some (bl s)[0] := by rw [List.head?_eq_getElem?, List.getElem?_eq_getElem k0]
        have e1 : (bl s).getLast? = some (bl s)[s.size - 1] := by rw [List.getLast?_eq_getElem?, hl, List.getElem?_eq_getElem k1]
        rw [e0, e1, show ((s.size : Int) - 1) = ((s.size : Nat) : Int) - 1 from rfl, wrap_dn s.size (by omega) (by omega)]
        by_cases h3 : (bl s)[0] = 124
        · refine ev_pos ((bt_124 k0).2 h3) (ev_pos (by omega) (ev_pos (by omega) ?_))
          by_cases h4 : (bl s)[s.size - 1] = 124
          · have hb : (bt s ((s.size - 1 : Nat) : Int) != 124) = false := by rw [bne_eq_false_iff_eq]; exact (bt_124 k1).2 h4
            rw [hb, if_neg (by simp [h3, h4])]
            refine Ev.step (fun k => by rw [feature_Parse.j0]) (ev_neg (by simp) ?_)
            have := parse_l0 s hz (s.size - 1) 1 1 [] (by omega) (by omega) (by omega) (by simp)
            rw [Nat.sub_self, List.take_zero, List.drop_one] at this
            exact this
          · have hb : (bt s ((s.size - 1 : Nat) : Int) != 124) = true := by rw [bne_iff_ne]; exact fun h => h4 ((bt_124 k1).1 h)
            rw [hb]
            exact three (if_pos (.inr (by simp [h4])))
        · exact ev_neg (fun h => h3 ((bt_124 k0).1 h)) (three (if_pos (.inl (by simp [h3]))))
  · refine ev_neg h0 (ev_now ?_)
    unfold PR; rw [if_pos h0]
end Go.Proofs.Ytcgglamgemgeiaa.Q
/- FEv2 -/
namespace Go.Proofs.Ytcgglamgemgeiaa.Q
open Go.RowKit Go.Lib Go.Proofs.YtcgglamgemgeiaaW.PrintWords Go.Proofs.YtcgglamgemgeiaaW.PrintLast
theorem contains_loop (l : List ByteArray) (f : ByteArray) (hl : l.length ≤ 1073741824) : ∀ d i : Nat, i + d = l.length → Ev (fun k => feature_contains.l0 k f l (l.length : Int) (i : Int)) (memb (l.drop i) f) := by
  intro d
  induction d with
  | zero =>
    intro i hd
    refine Ev.step (fun k => by rw [feature_contains.l0]) ?_
    rw [List.drop_eq_nil_of_le (by omega)]
    exact ev_neg (by omega) (Ev.now _)
  | succ d ih =>
    intro i hd
    have hi : i < l.length := by omega
    refine Ev.step (fun k => by rw [feature_contains.l0]) ?_
    refine ev_pos (by omega) (ev_pos (by omega) (ev_pos (by omega) ?_))
    rw [rd_nat hi, List.drop_eq_getElem_cons hi]
    by_cases he : l[i] = f
    · refine ev_pos (toList_eq_iff.2 he) (ev_now ?_)
      unfold memb; rw [List.any_cons, decide_eq_true he, Bool.true_or]
    · refine ev_neg (fun h => he (toList_eq_iff.1 h)) ?_
      rw [wrap_up i (by omega)]
      refine ev_eq (ih (i + 1) (by omega)) ?_
      unfold memb; rw [List.any_cons, decide_eq_false he, Bool.false_or]
theorem contains_ev (l : List ByteArray) (f : ByteArray) (hl : l.length ≤ 1073741824) : Ev (fun k => feature_contains.f k l f) (memb l f) := contains_loop l f hl l.length 0 (by omega)
theorem indexByte_iff (l : List UInt8) (c : UInt8) : decide (0 ≤ Lib.indexByte l c) = decide (c ∈ l) := by
  induction l with
  | nil => simp [Lib.indexByte]
  | cons b l ih =>
    rw [Lib.indexByte]
    by_cases h : b = c
    · subst h; simp
    · have h1 : (b == c) = false := beq_eq_false_iff_ne.2 h
      rw [h1]
      have hge := Lib.indexByte_ge l c
      have hne : ¬ c = b := fun e => h e.symm
      by_cases h2 : Lib.indexByte l c = -1
      · rw [h2] at ih ⊢
        simp at ih ⊢
        exact ⟨hne, ih⟩
      · have h3 : (Lib.indexByte l c == -1) = false := beq_eq_false_iff_ne.2 h2
        rw [h3]
        have h4 : 0 ≤ Lib.indexByte l c := by omega
        rw [decide_eq_true h4] at ih
        have hm : c ∈ l := of_decide_eq_true ih.symm
        simp [hm]
        omega
theorem strings_ev (f : ByteArray) : strings_Contains.f f (⟨#[124]⟩ : ByteArray) = some (decide ((124 : UInt8) ∈ bl f)) := by
  unfold strings_Contains.f
  rw [if_pos rfl, indexByte_iff]
  rfl
/-! ### insert -/
theorem lay_get (zs : List ByteArray) : ∀ (ys : List ByteArray) (o j : Nat), o + zs.length ≤ ys.length → (lay ys o zs)[j]? = if o ≤ j ∧ j < o + zs.length then zs[j - o]? else ys[j]? := by
  induction zs with
  | nil => intro ys o j _; rw [lay, if_neg (by simp only [List.length_nil]; omega)]
  | cons z zs ih =>
    intro ys o j h
    rw [List.length_cons] at h
    rw [lay, ih _ _ _ (by rw [List.length_set]; omega), List.length_cons]
    by_cases h1 : o + 1 ≤ j ∧ j < o + 1 + zs.length
    · rw [if_pos h1, if_pos (by omega)]
      have : j - o = (j - (o + 1)) + 1 := by omega
      rw [this, List.getElem?_cons_succ]
    · rw [if_neg h1]
      by_cases h2 : j = o
      · subst h2
        rw [List.getElem?_set_self (by omega), if_pos (by omega), Nat.sub_self, List.getElem?_cons_zero]
      · rw [List.getElem?_set_ne (fun e => h2 e.symm), if_neg (by omega)]
theorem insLay_eq (l : List ByteArray) (e f : ByteArray) (i : Nat) (hi : i ≤ l.length) : (insLay (l ++ [e]) (i : Int)).set i f = l.take i ++ f :: l.drop i := by
  unfold insLay
  rw [Int.toNat_natCast]
  have hz : ((l ++ [e]).drop i).take ((l ++ [e]).length - (i + 1)) = l.drop i := by
    rw [List.drop_append_of_le_length hi, List.length_append, List.length_singleton, List.take_append_of_le_length (by rw [List.length_drop]; omega), List.take_of_length_le (by rw [List.length_drop]; omega)]
  rw [hz]
  apply List.ext_getElem?
  intro j
  have hlen : i + 1 + (l.drop i).length ≤ (l ++ [e]).length := by rw [List.length_drop, List.length_append, List.length_singleton]; omega
  by_cases h1 : j = i
  · subst h1
    rw [List.getElem?_set_self (by rw [lay_length, List.length_append, List.length_singleton]; omega), List.getElem?_append_right (by rw [List.length_take]; omega), List.length_take]
    have : j - min j l.length = 0 := by omega
    rw [this]; rfl
  · rw [List.getElem?_set_ne (fun e => h1 e.symm), lay_get _ _ _ _ hlen, List.length_drop]
    by_cases h2 : j < i
    · rw [if_neg (by omega), List.getElem?_append_left (by omega), List.getElem?_append_left (by rw [List.length_take]; omega), List.getElem?_take, if_pos h2]
    · have e0 : (l.take i ++ f :: l.drop i)[j]? = (l.drop i)[j - (i + 1)]? := by
        rw [List.getElem?_append_right (by rw [List.length_take]; omega), List.length_take]
        have e1 : j - min i l.length = (j - (i + 1)) + 1 := by omega
        rw [e1, List.getElem?_cons_succ]
      rw [e0]
      by_cases h3 : j < i + 1 + (l.length - i)
      · rw [if_pos (by omega)]
      · rw [List.getElem?_drop]
        rw [if_neg (by omega), List.getElem?_eq_none (by rw [List.length_append, List.length_singleton]; omega), List.getElem?_eq_none (by omega)]
theorem insert_j2 (l : List ByteArray) (f : ByteArray) (hl : l.length ≤ 1073741824) (i : Nat) (hi : i ≤ l.length) : Ev (fun k => feature_insert.j2 k l f (i : Int) false) (l.take i ++ f :: l.drop i) := by
  refine Ev.step (fun k => by rw [feature_insert.j2]) ?_
  refine ev_neg (by simp) (ev_pos (by omega) (ev_some ?_))
  have hy : (l ++ [(⟨#[]⟩ : ByteArray)]).length = l.length + 1 := by simp
  rw [wrap_up i (by omega), hy]
  refine ev_pos (by omega) (ev_pos (by omega) (ev_pos (by omega) (ev_pos (by omega) (ev_pos (by omega) (ev_now ?_)))))
  rw [Int.toNat_natCast]
  exact insLay_eq l _ f i hi
theorem insert_loop (l : List ByteArray) (f : ByteArray) (hl : l.length ≤ 1073741824) (hs : SS l) : ∀ i : Nat, i ≤ l.length → (∀ j (h : j < l.length), i ≤ j → lt l[j] f = false) → Ev (fun k => feature_insert.l0 k l f (i : Int)) (insB l f) := by
  have fin : ∀ i : Nat, i ≤ l.length → (∀ x ∈ l.take i, lt x f = true) → (∀ h : i < l.length, lt l[i] f = false) → Ev (fun k => feature_insert.j1 k l f (i : Int) false) (insB l f) := by
    intro i hi ht hd
    rw [insB_at f l i hi ht hd]
    refine Ev.step (fun k => by rw [feature_insert.j1]) (ev_neg (by simp) ?_)
    by_cases h : i < l.length
    · refine ev_pos (by omega) (ev_pos (by omega) ?_)
      rw [dif_pos h, rd_nat h]
      by_cases he : l[i] = f
      · rw [if_pos he, he]
        refine Ev.step (fun k => by rw [feature_insert.j2]) (ev_pos (by simp) (Ev.now _))
      · rw [if_neg he]
        have : (l[i].toList == f.toList) = false := beq_eq_false_iff_ne.2 (fun h => he (toList_eq_iff.1 h))
        rw [this]
        exact insert_j2 l f hl i hi
    · rw [dif_neg h]
      exact ev_neg (by omega) (insert_j2 l f hl i hi)
  intro i
  induction i with
  | zero =>
    intro _ h
    refine Ev.step (fun k => by rw [feature_insert.l0]) (ev_neg (by omega) ?_)
    exact fin 0 (by omega) (by simp) (fun h' => h 0 h' (Nat.le_refl _))
  | succ i ih =>
    intro hi h
    have hi' : i < l.length := by omega
    refine Ev.step (fun k => by rw [feature_insert.l0]) (ev_pos (by omega) ?_)
    rw [wrap_dn (i + 1) (by omega) (by omega), Nat.add_sub_cancel]
    refine ev_pos (by omega) (ev_pos (by omega) ?_)
    rw [rd_nat hi', lt_eq]
    cases hlt : lt l[i] f with
    | false =>
      refine Ev.step (fun k => by rw [feature_insert.j1]) (ev_pos (show (!false) = true from rfl) ?_)
      rw [wrap_dn (i + 1) (by omega) (by omega), Nat.add_sub_cancel]
      refine ih (by omega) (fun j hj hij => ?_)
      rcases Nat.lt_or_ge i j with h1 | h1
      · exact h j hj h1
      · obtain rfl : j = i := by omega
        exact hlt
    | true =>
      refine fin (i + 1) hi (fun x hx => ?_) (fun h' => h (i + 1) h' (Nat.le_refl _))
      rw [List.take_add_one, List.getElem?_eq_getElem hi', List.mem_append] at hx
      rcases hx with hx | hx
      · obtain ⟨j, hj, rfl⟩ := List.mem_iff_getElem.1 hx
        rw [List.length_take] at hj
        rw [List.getElem_take]
        exact lt_trans (List.pairwise_iff_getElem.1 hs j i (by omega) hi' (by omega)) hlt
      · simp at hx; rw [hx]; exact hlt
theorem insert_ev (l : List ByteArray) (f : ByteArray) (hl : l.length ≤ 1073741824) (hs : SS l) : Ev (fun k => feature_insert.f k l f) (insB l f) :=
  insert_loop l f hl hs l.length (Nat.le_refl _) (fun j h hj => by omega)
/-! ### Format -/
theorem format_l1 (l : List ByteArray) (hl : l.length ≤ 1073741824) (hsz : ∀ g ∈ l, g.size ≤ 120) : ∀ (d i : Nat) (out : ByteArray), i + d = l.length → out.size ≤ 120 →
    Ev (fun k => feature_Format.l1 k out l (l.length : Int) (i : Int)) (if 120 < out.size + (tailT (l.drop i)).length then (⟨#[]⟩, 2) else (mkB (bl out ++ tailT (l.drop i)), 0)) := by
  intro d
  induction d with
  | zero =>
    intro i out hd ho
    refine Ev.step (fun k => by rw [feature_Format.l1]) (ev_neg (by omega) (ev_now ?_))
    rw [List.drop_eq_nil_of_le (by omega), tailT, List.append_nil, mkB_bl]
    rw [if_neg (by simp; omega)]
  | succ d ih =>
    intro i out hd ho
    have hi : i < l.length := by omega
    have hg := hsz l[i] (List.getElem_mem hi)
    refine Ev.step (fun k => by rw [feature_Format.l1]) (ev_pos (by omega) (ev_pos (by omega) (ev_pos (by omega) ?_)))
    rw [rd_nat hi]
    have s1 : (l[i] ++ (⟨#[124]⟩ : ByteArray)).size = l[i].size + 1 := by rw [ByteArray.size_append]; rfl
    have s2 : (out ++ (l[i] ++ (⟨#[124]⟩ : ByteArray))).size = out.size + (l[i].size + 1) := by rw [ByteArray.size_append, s1]
    rw [s1, s2]
    refine ev_pos (by omega) (ev_pos (by omega) ?_)
    have ht : tailT (l.drop i) = bl l[i] ++ 124 :: tailT (l.drop (i + 1)) := by rw [List.drop_eq_getElem_cons hi, tailT]
    have htl : (tailT (l.drop i)).length = l[i].size + 1 + (tailT (l.drop (i + 1))).length := by rw [ht, List.length_append, List.length_cons, bl_length]; omega
    by_cases h : ((out.size + (l[i].size + 1) : Nat) : Int) > 120
    · refine ev_pos h (ev_now ?_)
      rw [if_pos (by omega)]
    · refine ev_neg h ?_
      rw [wrap_up i (by omega)]
      refine ev_eq (ih (i + 1) _ (by omega) (by rw [s2]; omega)) ?_
      rw [s2, htl]
      have e : out.size + (l[i].size + 1) + (tailT (l.drop (i + 1))).length = out.size + (l[i].size + 1 + (tailT (l.drop (i + 1))).length) := by omega
      rw [e]
      have e2 : bl (out ++ (l[i] ++ (⟨#[124]⟩ : ByteArray))) ++ tailT (l.drop (i + 1)) = bl out ++ tailT (l.drop i) := by
        rw [bl_append, bl_append, ht]
        show bl out ++ (bl l[i] ++ [124]) ++ _ = _
        simp
      rw [e2]
/-- What is left of Format behind its first loop. -/
def FMof (r : List ByteArray × Int) : ByteArray × Int := if r.2 ≠ 0 then (⟨#[]⟩, r.2) else if 120 < (text r.1).size then (⟨#[]⟩, 2) else (text r.1, 0)
theorem insB_small {acc : List ByteArray} {f : ByteArray} (h : ∀ g ∈ acc, g.size ≤ 120) (hf : f.size ≤ 120) : ∀ g ∈ insB acc f, g.size ≤ 120 := fun g hg => (mem_insB.1 hg).elim (h g) (fun e => e ▸ hf)
theorem format_l0 (m : List ByteArray) (hm : m.length ≤ 1073741824) : ∀ (d i : Nat) (acc : List ByteArray), i + d = m.length → SS acc → acc.length ≤ i → (∀ g ∈ acc, g.size ≤ 120) →
    Ev (fun k => feature_Format.l0 k acc m (m.length : Int) (i : Int)) (FMof (fmGo (m.drop i) acc)) := by
  intro d
  induction d with
  | zero =>
    intro i acc hd hs ha hz
    refine Ev.step (fun k => by rw [feature_Format.l0]) (ev_neg (by omega) ?_)
    rw [List.drop_eq_nil_of_le (by omega), fmGo]
    refine ev_eq (format_l1 acc (by omega) hz acc.length 0 (⟨#[124]⟩ : ByteArray) (by omega) (by decide)) ?_
    unfold FMof
    simp only [ne_eq, not_true_eq_false, if_false]
    rw [size_text]
    rfl
  | succ d ih =>
    intro i acc hd hs ha hz
    have hi : i < m.length := by omega
    refine Ev.step (fun k => by rw [feature_Format.l0]) (ev_pos (by omega) (ev_pos (by omega) (ev_pos (by omega) ?_)))
    rw [rd_nat hi, List.drop_eq_getElem_cons hi, fmGo]
    unfold markup_ValidValue.f
    refine ev_some ?_
    by_cases h0 : vv m[i] = 0
    · refine ev_pos h0 ?_
      rw [if_neg (by simp [h0]), toList_bl]
      by_cases h1 : bl m[i] = []
      · refine ev_pos h1 (ev_now ?_)
        rw [if_pos (.inl h1)]; rfl
      · refine ev_neg h1 ?_
        rw [strings_ev]
        refine ev_some ?_
        by_cases h2 : (124 : UInt8) ∈ bl m[i]
        · refine ev_pos (by simp [h2]) (ev_now ?_)
          rw [if_pos (.inr h2)]; rfl
        · refine ev_neg (by simp [h2]) ?_
          rw [if_neg (by simp [h1, h2])]
          refine Ev.bind (insert_ev acc m[i] (by omega) hs) ?_
          rw [wrap_up i (by omega)]
          exact ih (i + 1) _ (by omega) (ss_insB hs) (by have := insB_length acc m[i]; omega) (insB_small hz (vv_zero.1 h0).1)
    · refine ev_neg h0 (ev_now ?_)
      rw [if_pos h0]
      unfold FMof
      rw [if_pos h0]
theorem format_ev (m : List ByteArray) (hm : m.length ≤ 1073741824) : Ev (fun k => feature_Format.f k m) (FM m) :=
  format_l0 m hm m.length 0 [] (by omega) List.Pairwise.nil (by simp) (by simp)
end Go.Proofs.Ytcgglamgemgeiaa.Q
/- FFeatureIntersect -/
namespace Go.Proofs.Ytcgglamgemgeiaa.Q
open Go.RowKit Go.Proofs.YtcgglamgemgeiaaW.PrintWords Go.Proofs.YtcgglamgemgeiaaW.PrintLast Go.Proofs.YtcgglamgemgeiaaW.PrintMore
attribute [local go_sem] max2_int min2_int max_two min_two max_three min_three max_four min_four   -- for this text's walks alone
set_option linter.unusedVariables false
set_option linter.unusedSimpArgs false

/-! ### feature_Intersect: function 21 -/
def feature_Intersect.l0 : Nat → List (List ByteArray) → List ByteArray → List ByteArray → Int → Int → Option (ByteArray × Int)
  | 0, _, _, _, _, _ => none
  | k + 1, x6, x8, x23, x24, x25 => if x25 < x24 then (if 0 ≤ x25 then (if x25 < (x23.length : Int) then (if 1 < (x6.length : Int) then ((feature_contains.f k (rd_L1 x6 1) (rdOf ByteArray.empty x23 x25)).bind fun t349 => (if t349 = true then (if x8.length < 8796093022208 then (feature_Intersect.l0 k x6 (x8 ++ [rdOf ByteArray.empty x23 x25]) x23 x24 (wrap64 (x25 + 1))) else (none)) else (feature_Intersect.l0 k x6 x8 x23 x24 (wrap64 (x25 + 1))))) else (none)) else (none)) else (none)) else ((feature_Format.f k x8).bind fun bt353 => (some (bt353.1, bt353.2)))
def feature_Intersect.f (k : Nat) (a0 : ByteArray) (a1 : ByteArray) : Option (ByteArray × Int) := (feature_parseAll.f k (([a0, a1] : List ByteArray))).bind fun bt342 => (if bt342.2 = 0 then (if 0 < (bt342.1.length : Int) then (feature_Intersect.l0 k bt342.1 ([] : List ByteArray) (rd_L1 bt342.1 0) ((rd_L1 bt342.1 0).length : Int) 0) else (none)) else (some ((⟨#[]⟩ : ByteArray), bt342.2)))
theorem feature_Intersect.mono_l : ∀ k, (∀ y0 y1 y2 y3 y4, LeO (feature_Intersect.l0 k y0 y1 y2 y3 y4) (feature_Intersect.l0 (k + 1) y0 y1 y2 y3 y4))
  | 0 => fun _ _ _ _ _ r h => by simp [feature_Intersect.l0] at h
  | k + 1 => by
    have ih0 := feature_Intersect.mono_l k
    · intro y0 y1 y2 y3 y4
      unfold feature_Intersect.l0
      repeat' first
      | (with_reducible exact ih0 _ _ _ _ _)
      | (with_reducible exact feature_Format.mono _ _)
      | (with_reducible exact feature_contains.mono _ _ _)
      | (with_reducible exact feature_parseAll.mono _ _)
      | (with_reducible exact LeO.refl _)
      | (with_reducible exact LeO.none _)
      | (with_reducible refine LeO.ite ?_ ?_)
      | (with_reducible refine LeO.bind ?_ (fun _ => ?_))
      | exact ih0 _ _ _ _ _
      | exact feature_Format.mono _ _
      | exact feature_contains.mono _ _ _
      | exact feature_parseAll.mono _ _
      | exact LeO.none _
      | refine LeO.ite ?_ ?_
      | refine LeO.bind ?_ (fun _ => ?_)
theorem feature_Intersect.mono : ∀ a0 a1 k, LeO (feature_Intersect.f k a0 a1) (feature_Intersect.f (k + 1) a0 a1) := by
  intro a0 a1 k
  have ih0 := feature_Intersect.mono_l k
  unfold feature_Intersect.f
  repeat' first
      | (with_reducible exact ih0 _ _ _ _ _)
      | (with_reducible exact feature_Format.mono _ _)
      | (with_reducible exact feature_contains.mono _ _ _)
      | (with_reducible exact feature_parseAll.mono _ _)
      | (with_reducible exact LeO.refl _)
      | (with_reducible exact LeO.none _)
      | (with_reducible refine LeO.ite ?_ ?_)
      | (with_reducible refine LeO.bind ?_ (fun _ => ?_))
      | exact ih0 _ _ _ _ _
      | exact feature_Format.mono _ _
      | exact feature_contains.mono _ _ _
      | exact feature_parseAll.mono _ _
      | exact LeO.none _
      | refine LeO.ite ?_ ?_
      | refine LeO.bind ?_ (fun _ => ?_)
set_option maxHeartbeats 8000000 in
set_option maxRecDepth 100000 in
theorem feature_Intersect.calls (k : Nat) (a0 : ByteArray) (a1 : ByteArray) (r1 : ByteArray) (r2 : Int) (w : World) (h : feature_Intersect.f k a0 a1 = some (r1, r2)) :
    Calls Try.prog 21 #[.string a0, .string a1] w fun e w' => e = .returned (.tuple #[.string r1, .int .i64 r2]) ∧ Below w.heap.size w w' := by
  have HB := Aside0.mk (Below.refl w.heap.size w)
  have H : ((feature_parseAll.f k (([a0, a1] : List ByteArray))).bind fun bt342 => (if bt342.2 = 0 then (if 0 < (bt342.1.length : Int) then (feature_Intersect.l0 k bt342.1 ([] : List ByteArray) (rd_L1 bt342.1 0) ((rd_L1 bt342.1 0).length : Int) 0) else (none)) else (some ((⟨#[]⟩ : ByteArray), bt342.2)))) = some (r1, r2) := h
  clear h
  obtain ⟨y339, hy339⟩ : ∃ y_ : List ByteArray, y_ = (([a0, a1] : List ByteArray)) := ⟨_, rfl⟩
  replace H : ((feature_parseAll.f k y339).bind fun bt342 => (if bt342.2 = 0 then (if 0 < (bt342.1.length : Int) then (feature_Intersect.l0 k bt342.1 ([] : List ByteArray) (rd_L1 bt342.1 0) ((rd_L1 bt342.1 0).length : Int) 0) else (none)) else (some ((⟨#[]⟩ : ByteArray), bt342.2)))) = some (r1, r2) := by first | (rw [hy339]; with_reducible exact H) | (have H2_ := (Option.bind_some _ _).symm.trans H; rw [hy339]; with_reducible exact H2_) | (have H2_ := (Option.bind_some _ _).symm.trans H; with_reducible exact H2_) | with_reducible exact H | (rw [hy339]; exact H) | exact H
  have Ny339 := Aside0.mk hy339
  clear hy339
  replace H := Option.bind_eq_some_iff.mp H
  obtain ⟨⟨t342, t343⟩, A30, H⟩ := H
  replace H : (if t343 = 0 then (if 0 < (t342.length : Int) then (feature_Intersect.l0 k t342 ([] : List ByteArray) (rd_L1 t342 0) ((rd_L1 t342 0).length : Int) 0) else (none)) else (some ((⟨#[]⟩ : ByteArray), t343))) = some (r1, r2) := H
  have A3 := Aside0.mk A30
  clear A30
  by_cases c4 : t343 = 0
  · rw [if_pos c4] at H
    have c4b0 : (t343 == 0) = true := beq_iff_eq.mpr c4
    have c4b1 : (t343 != 0) = false := bne_eq_false_iff_eq.mpr c4
    clear c4
    by_cases c5 : 0 < (t342.length : Int)
    · rw [if_pos c5] at H
      have c5b0 : decide (0 < (t342.length : Int)) = true := decide_eq_true c5
      have c5b1 : decide (0 < t342.length) = true := decide_eq_true (by omega)
      clear c5
      have H' := Aside0.mk H
      clear H
      go_enter Try.func21, Try.ntmps21
      go_wp2_with (first | ((with_reducible refine gate_dst (N := 14) rfl ?_); refine Kd.R_lit Kd.string _ 9 ?hg (N := 14) ?hd (xs := ([a0, a1] : List ByteArray)) (inner := [.string a0, .string a1]) (ok := fun _ => True) (okp := fun _ => True) ?hr ?hp (fun _ hk => hk) trivial (Below.refl _ _) (Nat.le_refl _) (by simp) ?_; (case hd => rfl); (case hg => rfl); (case hr => first | (go_simp; done) | (go_simp; rfl)); (case hp => exact (Reps.one (show Kd.M Kd.string _ _ _ a0 [.string a0] from rfl) (Reps.one (show Kd.M Kd.string _ _ _ a1 [.string a1] from rfl) (Reps.none _ _)))); intro v340 w6 ho7 hb hg_ hnew_; clear hg_ hnew_; (first | rw [← Ny339.out] at ho7 | (simp only [Int.reduceToNat] at ho7; rw [← Ny339.out] at ho7)); have n0_ := Aside0.mk (Kd.R_lower ho7 (below_size (by repeat (first | (with_reducible first | exact HB.out | apply below_alloc | apply pw_below_drewN | apply below_drew1) | exact HB.out)))); have n1_ := Aside0.mk (below_step (by repeat (first | (with_reducible first | exact HB.out | apply below_alloc | apply pw_below_drewN | apply below_drew1) | exact HB.out)) hb); clear HB; have HO341 := n0_; have HB := n1_; clear n0_ n1_; clear hb ho7; obtain ⟨Ao8, co8, eo8⟩ := Kd.R_slice HO341.out; subst eo8) | ((with_reducible refine gate_callee (f := 35) rfl ?_); refine goesL_ (some 15) rfl rfl Try.func35 (by kernel_rfl) rfl #[.slice Ao8 y339.length co8] rfl (by (try simp only [List.map_toArray, List.map_cons, List.map_nil]); first | done | rfl | (simp only [List.length_drop, List.length_take]; rfl)) ?_; (with_reducible refine (feature_parseAll.calls k _ _ y339 t342 t343 _ ?side1 ?side2 A3.out).mono ?_); (case side1 => repeat (first | exact (Kd.R_reads' HO341.out).2.2 | (with_reducible refine Kd.C_alloc ?_ _) | (with_reducible refine Kd.C_drewN ?_ _) | (with_reducible refine Kd.C_drew ?_))); (case side2 => exact (Kd.R_reads' HO341.out).2.1); rintro e w9 ⟨v344, rfl, ho0, hb⟩; refine ⟨_, rfl, ?_⟩; have n0_ := Aside0.mk (Kd.R_below (by (with_reducible repeat (first | apply Kd.R_alloc | apply Kd.R_drewN | apply Kd.R_drew)); exact HO341.out) hb); have n1_ := Aside0.mk (Kd.S_lower (Kd.S_new' ho0 (Kd.R_lt (by (with_reducible repeat (first | apply Kd.R_alloc | apply Kd.R_drewN | apply Kd.R_drew)); exact HO341.out))) (below_size (by repeat (first | (with_reducible first | exact HB.out | apply below_alloc | apply pw_below_drewN | apply below_drew1) | exact HB.out)))); have n2_ := Aside0.mk (below_step (by repeat (first | (with_reducible first | exact HB.out | apply below_alloc | apply pw_below_drewN | apply below_drew1) | exact HB.out)) hb); clear HO341; clear HB; have HO341 := n0_; have HO345 := n1_; have HB := n2_; clear n0_ n1_ n2_; (try clear hb); (try clear hb2); (try clear hk); (try clear hi); (try clear ho0); obtain ⟨Ao10, co10, eo10⟩ := Kd.S_slice HO345.out; subst eo10; have p346 : 0 ≤ (0 : Int) := (by omega); have q346 : 0 < (t342.length : Int) := of_decide_eq_true (by first | (with_reducible assumption) | assumption); obtain ⟨ad346, A346_0, c346_0, e346, hx346_0, hl346_0, hi346_0⟩ := at_L1 (Kd.S_reads' HO345.out).2.2 0 p346 q346; cases e346; obtain ⟨ce346, hce346, hMe346, hcc346⟩ := Kd.S_get HO345.out [] 0 p346 (by first | exact q346 | exact of_decide_eq_true (by first | (with_reducible assumption) | assumption) | (have e_ := (Kd.S_reads' HO345.out).1; omega)); obtain ⟨ve346_0, rfl, ge346_0⟩ := hMe346; have hv346_0 := hcc346 0 _ rfl; rw [Nat.add_zero, show ((Kd.slice 9 Kd.string)).sz = 1 from rfl, Nat.mul_one] at hv346_0; replace hv346_0 := Option.some.inj (hv346_0.symm.trans hx346_0); rw [hv346_0] at ge346_0; have HL346_0 := Aside0.mk (show Kd.R Kd.string 9 _ _ _ _ (rd_L1 t342 0) from ge346_0); clear hv346_0 ge346_0; clear hcc346 hce346; have qi346 : (0 < t342.length) = True := eq_true (by omega); (try rw [show ((0 : Int)).toNat = 0 from rfl] at hx346_0); (try rw [Addr.add_zero'] at hx346_0); have HR346_0 := Aside0.mk hi346_0; have HC346_0 := Aside0.mk hl346_0; clear hi346_0 hl346_0; replace p346 := eq_true p346; replace q346 := eq_true q346))
      have HB0_ := HB
      go_loopg [8, 25] k (fun kq v8 v25 w' => ∃ (x8_1 : List ByteArray) (x25_1 : Int), v25 = .int .i64 x25_1 ∧ Aside0 (feature_Intersect.l0 kq t342 x8_1 (rd_L1 t342 0) ((rd_L1 t342 0).length : Int) x25_1 = some (r1, r2)) ∧ Aside0 (kq ≤ k) ∧ Aside0 (Kd.S (Kd.slice 9 Kd.string) 23 w' w.heap.size (fun k_ => some k_ ≠ (v8 : Value).ownBlock) (.slice (some ad346) t342.length co10) t342) ∧ Aside0 (Kd.R Kd.string 9 w' w9.heap.size (fun _ => True) v8 x8_1) ∧ Aside0 (Below w9.heap.size w9 w'))
      case atStart => exact ⟨(([] : List ByteArray)), (0), (by first | rfl | (simp; done) | (simp [*]; done)), H', ⟨Nat.le_refl _⟩, ⟨by (with_reducible repeat (first | apply Kd.S_alloc | apply Kd.S_drewN | apply Kd.S_drew)); exact Kd.S_mono HO345.out (fun _ hk => (by simp [Value.ownBlock]))⟩, ⟨by first | exact Kd.R_nil _ _ _ _ _ | exact Kd.N_nil _ _ _ _ _ | exact Kd.V_nil _ _ _ _ _ | exact Kd.Q_nil _ _ _ _ _ | exact Kd.S_nil _ _ _ _ _⟩, ⟨Below.refl _ _⟩⟩
      case round =>
        clear H'
        try clear c2
        try clear p2
        try clear c3
        try clear p3
        try clear q3
        try clear hx3
        try clear qi3
        try clear c4
        try clear c4b0
        try clear c4b1
        try clear c5
        try clear c5b0
        try clear c5b1
        try clear hx346_0
        try clear p346
        try clear q346
        obtain ⟨x8_1, x25_1, rfl, HA, HK1, HO_6, HO_8, HB⟩ := hrel
        cases gk with
        | zero => exact absurd HA.out (by simp [feature_Intersect.l0])
        | succ k1 =>
          have H := HA.out
          clear HA
          simp only [feature_Intersect.l0] at H
          by_cases c11 : x25_1 < ((rd_L1 t342 0).length : Int)
          · rw [if_pos c11] at H
            have c11b0 : decide (x25_1 < ((rd_L1 t342 0).length : Int)) = true := decide_eq_true c11
            clear c11
            by_cases c12 : 0 ≤ x25_1
            · rw [if_pos c12] at H
              have c12b0 : decide (0 ≤ x25_1) = true := decide_eq_true c12
              clear c12
              by_cases c13 : x25_1 < ((rd_L1 t342 0).length : Int)
              · rw [if_pos c13] at H
                have c13b0 : decide (x25_1 < ((rd_L1 t342 0).length : Int)) = true := decide_eq_true c13
                clear c13
                by_cases c14 : 1 < (t342.length : Int)
                · rw [if_pos c14] at H
                  have c14b0 : decide (1 < (t342.length : Int)) = true := decide_eq_true c14
                  have c14b1 : decide (1 < t342.length) = true := decide_eq_true (by omega)
                  clear c14
                  replace H := Option.bind_eq_some_iff.mp H
                  obtain ⟨t349, A150, H⟩ := H
                  replace H : (if t349 = true then (if x8_1.length < 8796093022208 then (feature_Intersect.l0 k1 t342 (x8_1 ++ [rdOf ByteArray.empty (rd_L1 t342 0) x25_1]) (rd_L1 t342 0) ((rd_L1 t342 0).length : Int) (wrap64 (x25_1 + 1))) else (none)) else (feature_Intersect.l0 k1 t342 x8_1 (rd_L1 t342 0) ((rd_L1 t342 0).length : Int) (wrap64 (x25_1 + 1)))) = some (r1, r2) := H
                  have A15 := Aside0.mk A150
                  clear A150
                  by_cases c16 : t349 = true
                  · subst c16
                    have H1 : (if x8_1.length < 8796093022208 then (feature_Intersect.l0 k1 t342 (x8_1 ++ [rdOf ByteArray.empty (rd_L1 t342 0) x25_1]) (rd_L1 t342 0) ((rd_L1 t342 0).length : Int) (wrap64 (x25_1 + 1))) else (none)) = some (r1, r2) := by rw [if_pos rfl] at H; exact H
                    clear H
                    have H := H1
                    clear H1
                    by_cases c17 : x8_1.length < 8796093022208
                    · rw [if_pos c17] at H
                      have LMc17 := Aside0.mk c17
                      clear c17
                      obtain ⟨y350, hy350⟩ : ∃ y_ : List ByteArray, y_ = (x8_1 ++ [rdOf ByteArray.empty (rd_L1 t342 0) x25_1]) := ⟨_, rfl⟩
                      replace H : (feature_Intersect.l0 k1 t342 y350 (rd_L1 t342 0) ((rd_L1 t342 0).length : Int) (wrap64 (x25_1 + 1))) = some (r1, r2) := by first | (rw [hy350]; with_reducible exact H) | (have H2_ := (Option.bind_some _ _).symm.trans H; rw [hy350]; with_reducible exact H2_) | (have H2_ := (Option.bind_some _ _).symm.trans H; with_reducible exact H2_) | with_reducible exact H | (rw [hy350]; exact H) | exact H
                      have Ny350 := Aside0.mk hy350
                      clear hy350
                      have H' := Aside0.mk H
                      clear H
                      have p347 : 0 ≤ (x25_1 : Int) := of_decide_eq_true (by first | (with_reducible assumption) | assumption)
                      have q347 : x25_1 < ((rd_L1 t342 0).length : Int) := of_decide_eq_true (by first | (with_reducible assumption) | assumption)
                      obtain ⟨ad347, e347, hx347_0⟩ := Kd.at_string HR346_0.out x25_1 p347 q347
                      cases e347
                      replace hx347_0 := (HB.out.cell (World.block_lt_of_cell? w9 _ hx347_0)).trans hx347_0
                      replace p347 := eq_true p347
                      replace q347 := eq_true q347
                      have p348 : 0 ≤ (1 : Int) := (by omega)
                      have q348 : 1 < (t342.length : Int) := of_decide_eq_true (by first | (with_reducible assumption) | assumption)
                      obtain ⟨ad348, A348_0, c348_0, e348, hx348_0, hl348_0, hi348_0⟩ := at_L1 (Kd.S_reads' HO_6.out).2.2 1 p348 q348
                      obtain rfl : ad346 = ad348 := (by injection e348)
                      obtain ⟨ce348, hce348, hMe348, hcc348⟩ := Kd.S_get HO_6.out [] 1 p348 (by first | exact q348 | exact of_decide_eq_true (by first | (with_reducible assumption) | assumption) | (have e_ := (Kd.S_reads' HO_6.out).1; omega))
                      obtain ⟨ve348_0, rfl, ge348_0⟩ := hMe348
                      have hv348_0 := hcc348 0 _ rfl
                      rw [Nat.add_zero, show ((Kd.slice 9 Kd.string)).sz = 1 from rfl, Nat.mul_one] at hv348_0
                      replace hv348_0 := Option.some.inj (hv348_0.symm.trans hx348_0)
                      rw [hv348_0] at ge348_0
                      have HL348_0 := Aside0.mk (show Kd.R Kd.string 9 _ _ _ _ (rd_L1 t342 1) from ge348_0)
                      clear hv348_0 ge348_0
                      clear hcc348 hce348
                      (try simp only [show (1 : Int).toNat = 1 from rfl, Nat.reduceMul, Nat.reduceEqDiff, Go.Addr.add, ↓reduceIte] at hx348_0)
                      have qi348 : (1 < t342.length) = True := eq_true (by omega)
                      (try rw [show ((1 : Int)).toNat = 1 from rfl] at hx348_0)
                      have HR348_0 := Aside0.mk hi348_0
                      have HC348_0 := Aside0.mk hl348_0
                      clear hi348_0 hl348_0
                      replace p348 := eq_true p348
                      replace q348 := eq_true q348
                      go_wp2_with (first | ((with_reducible refine gate_callee (f := 33) rfl ?_); refine goesL_ (some 33) rfl rfl Try.func33 (by kernel_rfl) rfl #[.slice A348_0 (rd_L1 t342 1).length c348_0, .string (rdOf ByteArray.empty (rd_L1 t342 0) x25_1)] rfl (by (try simp only [List.map_toArray, List.map_cons, List.map_nil]); first | done | rfl | (simp only [List.length_drop, List.length_take]; rfl)) ?_; (with_reducible refine (feature_contains.calls k1 _ _ (rd_L1 t342 1) (rdOf ByteArray.empty (rd_L1 t342 0) x25_1) true _ ?side1 ?side2 A15.out).mono ?_); (case side1 => repeat (first | exact (by repeat (first | (with_reducible exact HR348_0.out) | (with_reducible refine Kd.C_alloc ?_ _) | (with_reducible refine Kd.C_drewN ?_ _) | (with_reducible refine Kd.C_drew ?_) | exact HR348_0.out)) | (with_reducible refine Kd.C_alloc ?_ _) | (with_reducible refine Kd.C_drewN ?_ _) | (with_reducible refine Kd.C_drew ?_))); (case side2 => exact HC348_0.out); rintro e w' ⟨rfl, ⟨nd, rfl⟩⟩; refine ⟨_, rfl, ?_⟩) | ((with_reducible refine gate_builtin (b := .append) (xs := #[.tmp 34, .tmp 36]) rfl ?_); at_builtin; refine Kd.R_append Kd.string (w0 := w9) w9.heap.size rfl (.tmp 34) (.tmp 36) 23 9 (.string ⟨#[]⟩) 16 rfl Try.underlying23 info9 rfl (by decide) (by omega) u8 x8_1 (rdOf ByteArray.empty (rd_L1 t342 0) x25_1) [.string (rdOf ByteArray.empty (rd_L1 t342 0) x25_1)] (fun _ => True) (fun _ => False) rfl rfl ?aP (fun _ hk => hk.elim) ?aF ?aO ?aB ?aS ?aL ?_; (case aP => exact rfl); (case aB => exact (by repeat (first | (with_reducible first | exact HB.out | apply below_alloc | apply pw_below_drewN | apply below_drew1) | exact HB.out))); (case aF => exact (fun _ _ => trivial)); (case aO => exact (by (with_reducible repeat (first | apply Kd.R_alloc | apply Kd.R_drewN | apply Kd.R_drew)); exact HO_8.out)); (case aS => exact (below_size (by repeat (first | (with_reducible first | exact HB.out | apply below_alloc | apply pw_below_drewN | apply below_drew1) | exact HB.out)))); (case aL => have := LMc17.out; omega); intro v351 w18 ho hb hg hat; rw [← Ny350.out] at ho; have n0_ := Aside0.mk (Kd.S_after (ok := (fun _ => True)) (by (with_reducible repeat (first | apply Kd.S_alloc | apply Kd.S_drewN | apply Kd.S_drew)); exact Kd.S_mono HO_6.out (fun _ hk => ⟨trivial, hk⟩)) hg hat); have n1_ := Aside0.mk (Kd.R_after (ok := (fun k_ => some k_ ≠ (.slice (some ad346) t342.length co10 : Value).ownBlock)) (by (with_reducible repeat (first | apply Kd.R_alloc | apply Kd.R_drewN | apply Kd.R_drew)); exact Kd.R_mono HL348_0.out (fun _ hk => ⟨hk.2, hk.1⟩)) hg hat); have n2_ := Aside0.mk (hb); have n3_ := Aside0.mk (ho); clear HO_6; clear HL348_0; clear HB; clear HO_8; have HO_6 := n0_; have HL348_0 := n1_; have HB := n2_; have HO352 := n3_; clear n0_ n1_ n2_ n3_; clear ho hb hg hat))
                      go_roundg k1
                      case measure => have := HK1.out; omega
                      case rel => exact ⟨(y350), (wrap64 (x25_1 + 1)), (by first | rfl | (simp; done) | (simp [*]; done)), H', ⟨by have := HK1.out; omega⟩, ⟨by (with_reducible repeat (first | apply Kd.S_alloc | apply Kd.S_drewN | apply Kd.S_drew)); exact Kd.S_mono HO_6.out (fun _ hk => hk.2)⟩, ⟨by (with_reducible repeat (first | apply Kd.R_alloc | apply Kd.R_drewN | apply Kd.R_drew)); exact HO352.out⟩, ⟨by repeat (first | (with_reducible first | exact HB.out | apply below_alloc | apply pw_below_drewN | apply below_drew1) | exact HB.out)⟩⟩
                    · rw [if_neg c17] at H
                      exact absurd H (by simp)
                  · replace c16 := Bool.eq_false_iff.mpr c16
                    subst c16
                    have H1 : (feature_Intersect.l0 k1 t342 x8_1 (rd_L1 t342 0) ((rd_L1 t342 0).length : Int) (wrap64 (x25_1 + 1))) = some (r1, r2) := by rw [if_neg (show ¬ (false = true) by decide)] at H; exact H
                    clear H
                    have H := H1
                    clear H1
                    have H' := Aside0.mk H
                    clear H
                    have p347 : 0 ≤ (x25_1 : Int) := of_decide_eq_true (by first | (with_reducible assumption) | assumption)
                    have q347 : x25_1 < ((rd_L1 t342 0).length : Int) := of_decide_eq_true (by first | (with_reducible assumption) | assumption)
                    obtain ⟨ad347, e347, hx347_0⟩ := Kd.at_string HR346_0.out x25_1 p347 q347
                    cases e347
                    replace hx347_0 := (HB.out.cell (World.block_lt_of_cell? w9 _ hx347_0)).trans hx347_0
                    replace p347 := eq_true p347
                    replace q347 := eq_true q347
                    have p348 : 0 ≤ (1 : Int) := (by omega)
                    have q348 : 1 < (t342.length : Int) := of_decide_eq_true (by first | (with_reducible assumption) | assumption)
                    obtain ⟨ad348, A348_0, c348_0, e348, hx348_0, hl348_0, hi348_0⟩ := at_L1 (Kd.S_reads' HO_6.out).2.2 1 p348 q348
                    obtain rfl : ad346 = ad348 := (by injection e348)
                    obtain ⟨ce348, hce348, hMe348, hcc348⟩ := Kd.S_get HO_6.out [] 1 p348 (by first | exact q348 | exact of_decide_eq_true (by first | (with_reducible assumption) | assumption) | (have e_ := (Kd.S_reads' HO_6.out).1; omega))
                    obtain ⟨ve348_0, rfl, ge348_0⟩ := hMe348
                    have hv348_0 := hcc348 0 _ rfl
                    rw [Nat.add_zero, show ((Kd.slice 9 Kd.string)).sz = 1 from rfl, Nat.mul_one] at hv348_0
                    replace hv348_0 := Option.some.inj (hv348_0.symm.trans hx348_0)
                    rw [hv348_0] at ge348_0
                    have HL348_0 := Aside0.mk (show Kd.R Kd.string 9 _ _ _ _ (rd_L1 t342 1) from ge348_0)
                    clear hv348_0 ge348_0
                    clear hcc348 hce348
                    (try simp only [show (1 : Int).toNat = 1 from rfl, Nat.reduceMul, Nat.reduceEqDiff, Go.Addr.add, ↓reduceIte] at hx348_0)
                    have qi348 : (1 < t342.length) = True := eq_true (by omega)
                    (try rw [show ((1 : Int)).toNat = 1 from rfl] at hx348_0)
                    have HR348_0 := Aside0.mk hi348_0
                    have HC348_0 := Aside0.mk hl348_0
                    clear hi348_0 hl348_0
                    replace p348 := eq_true p348
                    replace q348 := eq_true q348
                    go_wp2_with (first | ((with_reducible refine gate_callee (f := 33) rfl ?_); refine goesL_ (some 33) rfl rfl Try.func33 (by kernel_rfl) rfl #[.slice A348_0 (rd_L1 t342 1).length c348_0, .string (rdOf ByteArray.empty (rd_L1 t342 0) x25_1)] rfl (by (try simp only [List.map_toArray, List.map_cons, List.map_nil]); first | done | rfl | (simp only [List.length_drop, List.length_take]; rfl)) ?_; (with_reducible refine (feature_contains.calls k1 _ _ (rd_L1 t342 1) (rdOf ByteArray.empty (rd_L1 t342 0) x25_1) false _ ?side1 ?side2 A15.out).mono ?_); (case side1 => repeat (first | exact (by repeat (first | (with_reducible exact HR348_0.out) | (with_reducible refine Kd.C_alloc ?_ _) | (with_reducible refine Kd.C_drewN ?_ _) | (with_reducible refine Kd.C_drew ?_) | exact HR348_0.out)) | (with_reducible refine Kd.C_alloc ?_ _) | (with_reducible refine Kd.C_drewN ?_ _) | (with_reducible refine Kd.C_drew ?_))); (case side2 => exact HC348_0.out); rintro e w' ⟨rfl, ⟨nd, rfl⟩⟩; refine ⟨_, rfl, ?_⟩))
                    go_roundg k1
                    case measure => have := HK1.out; omega
                    case rel => exact ⟨(x8_1), (wrap64 (x25_1 + 1)), (by first | rfl | (simp; done) | (simp [*]; done)), H', ⟨by have := HK1.out; omega⟩, ⟨by (with_reducible repeat (first | apply Kd.S_alloc | apply Kd.S_drewN | apply Kd.S_drew)); exact HO_6.out⟩, ⟨by (with_reducible repeat (first | apply Kd.R_alloc | apply Kd.R_drewN | apply Kd.R_drew)); exact HO_8.out⟩, ⟨by repeat (first | (with_reducible first | exact HB.out | apply below_alloc | apply pw_below_drewN | apply below_drew1) | exact HB.out)⟩⟩
                · rw [if_neg c14] at H
                  exact absurd H (by simp)
              · rw [if_neg c13] at H
                exact absurd H (by simp)
            · rw [if_neg c12] at H
              exact absurd H (by simp)
          · rw [if_neg c11] at H
            have c11b0 : decide (x25_1 < ((rd_L1 t342 0).length : Int)) = false := decide_eq_false c11
            clear c11
            replace H := Option.bind_eq_some_iff.mp H
            obtain ⟨⟨t353, t354⟩, A190, H⟩ := H
            replace H : (some (t353, t354)) = some (r1, r2) := H
            have A19 := Aside0.mk A190
            clear A190
            simp only [Option.some.injEq, Prod.mk.injEq] at H
            obtain ⟨rfl, rfl⟩ := H
            obtain ⟨Ao20, co20, eo20⟩ := Kd.R_slice HO_8.out
            subst eo20
            go_wp2_with (first | ((with_reducible refine gate_callee (f := 16) rfl ?_); refine goesL_ (some 40) rfl rfl Try.func16 (by kernel_rfl) rfl #[.slice Ao20 x8_1.length co20] rfl (by (try simp only [List.map_toArray, List.map_cons, List.map_nil]); first | done | rfl | (simp only [List.length_drop, List.length_take]; rfl)) ?_; (with_reducible refine (feature_Format.calls k1 _ _ x8_1 t353 t354 _ ?side1 ?side2 A19.out).mono ?_); (case side1 => repeat (first | exact (Kd.R_reads' HO_8.out).2.2 | (with_reducible refine Kd.C_alloc ?_ _) | (with_reducible refine Kd.C_drewN ?_ _) | (with_reducible refine Kd.C_drew ?_))); (case side2 => exact (Kd.R_reads' HO_8.out).2.1); rintro e w21 ⟨rfl, hb⟩; refine ⟨_, rfl, ?_⟩; have n0_ := Aside0.mk (Kd.S_below (by (with_reducible repeat (first | apply Kd.S_alloc | apply Kd.S_drewN | apply Kd.S_drew)); exact HO_6.out) hb); have n1_ := Aside0.mk (Kd.R_below (by (with_reducible repeat (first | apply Kd.R_alloc | apply Kd.R_drewN | apply Kd.R_drew)); exact HO_8.out) hb); have n2_ := Aside0.mk (below_step (by repeat (first | (with_reducible first | exact HB.out | apply below_alloc | apply pw_below_drewN | apply below_drew1) | exact HB.out)) hb); clear HO_6; clear HO_8; clear HB; have HO_6 := n0_; have HO_8 := n1_; have HB := n2_; clear n0_ n1_ n2_; (try clear hb); (try clear hb2); (try clear hk); (try clear hi)))
            go_ret2
            exact ⟨by first | rfl | (simp [errW_none, errW_some] <;> rfl) | (simp [*, errW_none, errW_some] <;> rfl), below_step HB0_.out HB.out⟩
    · rw [if_neg c5] at H
      exact absurd H (by simp)
  · rw [if_neg c4] at H
    have c4b0 : (t343 == 0) = false := beq_eq_false_iff_ne.mpr c4
    have c4b1 : (t343 != 0) = true := bne_iff_ne.mpr c4
    simp only [Option.some.injEq, Prod.mk.injEq] at H
    obtain ⟨rfl, rfl⟩ := H
    go_enter Try.func21, Try.ntmps21
    go_wp2_with (first | ((with_reducible refine gate_dst (N := 14) rfl ?_); refine Kd.R_lit Kd.string _ 9 ?hg (N := 14) ?hd (xs := ([a0, a1] : List ByteArray)) (inner := [.string a0, .string a1]) (ok := fun _ => True) (okp := fun _ => True) ?hr ?hp (fun _ hk => hk) trivial (Below.refl _ _) (Nat.le_refl _) (by simp) ?_; (case hd => rfl); (case hg => rfl); (case hr => first | (go_simp; done) | (go_simp; rfl)); (case hp => exact (Reps.one (show Kd.M Kd.string _ _ _ a0 [.string a0] from rfl) (Reps.one (show Kd.M Kd.string _ _ _ a1 [.string a1] from rfl) (Reps.none _ _)))); intro v340 w22 ho23 hb hg_ hnew_; clear hg_ hnew_; (first | rw [← Ny339.out] at ho23 | (simp only [Int.reduceToNat] at ho23; rw [← Ny339.out] at ho23)); have n0_ := Aside0.mk (Kd.R_lower ho23 (below_size (by repeat (first | (with_reducible first | exact HB.out | apply below_alloc | apply pw_below_drewN | apply below_drew1) | exact HB.out)))); have n1_ := Aside0.mk (below_step (by repeat (first | (with_reducible first | exact HB.out | apply below_alloc | apply pw_below_drewN | apply below_drew1) | exact HB.out)) hb); clear HB; have HO341 := n0_; have HB := n1_; clear n0_ n1_; clear hb ho23; obtain ⟨Ao24, co24, eo24⟩ := Kd.R_slice HO341.out; subst eo24) | ((with_reducible refine gate_callee (f := 35) rfl ?_); refine goesL_ (some 15) rfl rfl Try.func35 (by kernel_rfl) rfl #[.slice Ao24 y339.length co24] rfl (by (try simp only [List.map_toArray, List.map_cons, List.map_nil]); first | done | rfl | (simp only [List.length_drop, List.length_take]; rfl)) ?_; (with_reducible refine (feature_parseAll.calls k _ _ y339 t342 t343 _ ?side1 ?side2 A3.out).mono ?_); (case side1 => repeat (first | exact (Kd.R_reads' HO341.out).2.2 | (with_reducible refine Kd.C_alloc ?_ _) | (with_reducible refine Kd.C_drewN ?_ _) | (with_reducible refine Kd.C_drew ?_))); (case side2 => exact (Kd.R_reads' HO341.out).2.1); rintro e w25 ⟨v344, rfl, ho0, hb⟩; refine ⟨_, rfl, ?_⟩; have n0_ := Aside0.mk (Kd.R_below (by (with_reducible repeat (first | apply Kd.R_alloc | apply Kd.R_drewN | apply Kd.R_drew)); exact HO341.out) hb); have n1_ := Aside0.mk (Kd.S_lower (Kd.S_new' ho0 (Kd.R_lt (by (with_reducible repeat (first | apply Kd.R_alloc | apply Kd.R_drewN | apply Kd.R_drew)); exact HO341.out))) (below_size (by repeat (first | (with_reducible first | exact HB.out | apply below_alloc | apply pw_below_drewN | apply below_drew1) | exact HB.out)))); have n2_ := Aside0.mk (below_step (by repeat (first | (with_reducible first | exact HB.out | apply below_alloc | apply pw_below_drewN | apply below_drew1) | exact HB.out)) hb); clear HO341; clear HB; have HO341 := n0_; have HO345 := n1_; have HB := n2_; clear n0_ n1_ n2_; (try clear hb); (try clear hb2); (try clear hk); (try clear hi); (try clear ho0)))
    go_ret2
    exact ⟨by first | rfl | (simp [errW_none, errW_some] <;> rfl) | (simp [*, errW_none, errW_some] <;> rfl), by repeat (first | (with_reducible first | exact HB.out | apply below_alloc | apply pw_below_drewN | apply below_drew1) | exact HB.out)⟩

end Go.Proofs.Ytcgglamgemgeiaa.Q
/- FFeatureSubset -/
namespace Go.Proofs.Ytcgglamgemgeiaa.Q
open Go.RowKit Go.Proofs.YtcgglamgemgeiaaW.PrintWords Go.Proofs.YtcgglamgemgeiaaW.PrintLast Go.Proofs.YtcgglamgemgeiaaW.PrintMore
attribute [local go_sem] max2_int min2_int max_two min_two max_three min_three max_four min_four   -- for this text's walks alone
set_option linter.unusedVariables false
set_option linter.unusedSimpArgs false

/-! ### feature_Subset: function 24 -/
def feature_Subset.l0 : Nat → List (List ByteArray) → List ByteArray → Int → Int → Option (Bool × Int)
  | 0, _, _, _, _ => none
  | k + 1, x6, x22, x23, x24 => if x24 < x23 then (if 0 ≤ x24 then (if x24 < (x22.length : Int) then (if 1 < (x6.length : Int) then ((feature_contains.f k (rd_L1 x6 1) (rdOf ByteArray.empty x22 x24)).bind fun t423 => (if t423 = true then (feature_Subset.l0 k x6 x22 x23 (wrap64 (x24 + 1))) else (some (false, 0)))) else (none)) else (none)) else (none)) else (some (true, 0))
def feature_Subset.f (k : Nat) (a0 : ByteArray) (a1 : ByteArray) : Option (Bool × Int) := (feature_parseAll.f k (([a0, a1] : List ByteArray))).bind fun bt416 => (if bt416.2 = 0 then (if 0 < (bt416.1.length : Int) then (feature_Subset.l0 k bt416.1 (rd_L1 bt416.1 0) ((rd_L1 bt416.1 0).length : Int) 0) else (none)) else (some (false, bt416.2)))
theorem feature_Subset.mono_l : ∀ k, (∀ y0 y1 y2 y3, LeO (feature_Subset.l0 k y0 y1 y2 y3) (feature_Subset.l0 (k + 1) y0 y1 y2 y3))
  | 0 => fun _ _ _ _ r h => by simp [feature_Subset.l0] at h
  | k + 1 => by
    have ih0 := feature_Subset.mono_l k
    · intro y0 y1 y2 y3
      unfold feature_Subset.l0
      repeat' first
      | (with_reducible exact ih0 _ _ _ _)
      | (with_reducible exact feature_contains.mono _ _ _)
      | (with_reducible exact feature_parseAll.mono _ _)
      | (with_reducible exact LeO.refl _)
      | (with_reducible exact LeO.none _)
      | (with_reducible refine LeO.ite ?_ ?_)
      | (with_reducible refine LeO.bind ?_ (fun _ => ?_))
      | exact ih0 _ _ _ _
      | exact feature_contains.mono _ _ _
      | exact feature_parseAll.mono _ _
      | exact LeO.none _
      | refine LeO.ite ?_ ?_
      | refine LeO.bind ?_ (fun _ => ?_)
theorem feature_Subset.mono : ∀ a0 a1 k, LeO (feature_Subset.f k a0 a1) (feature_Subset.f (k + 1) a0 a1) := by
  intro a0 a1 k
  have ih0 := feature_Subset.mono_l k
  unfold feature_Subset.f
  repeat' first
      | (with_reducible exact ih0 _ _ _ _)
      | (with_reducible exact feature_contains.mono _ _ _)
      | (with_reducible exact feature_parseAll.mono _ _)
      | (with_reducible exact LeO.refl _)
      | (with_reducible exact LeO.none _)
      | (with_reducible refine LeO.ite ?_ ?_)
      | (with_reducible refine LeO.bind ?_ (fun _ => ?_))
      | exact ih0 _ _ _ _
      | exact feature_contains.mono _ _ _
      | exact feature_parseAll.mono _ _
      | exact LeO.none _
      | refine LeO.ite ?_ ?_
      | refine LeO.bind ?_ (fun _ => ?_)
set_option maxHeartbeats 8000000 in
set_option maxRecDepth 100000 in
theorem feature_Subset.calls (k : Nat) (a0 : ByteArray) (a1 : ByteArray) (r1 : Bool) (r2 : Int) (w : World) (h : feature_Subset.f k a0 a1 = some (r1, r2)) :
    Calls Try.prog 24 #[.string a0, .string a1] w fun e w' => e = .returned (.tuple #[.bool r1, .int .i64 r2]) ∧ Below w.heap.size w w' := by
  have HB := Aside0.mk (Below.refl w.heap.size w)
  have H : ((feature_parseAll.f k (([a0, a1] : List ByteArray))).bind fun bt416 => (if bt416.2 = 0 then (if 0 < (bt416.1.length : Int) then (feature_Subset.l0 k bt416.1 (rd_L1 bt416.1 0) ((rd_L1 bt416.1 0).length : Int) 0) else (none)) else (some (false, bt416.2)))) = some (r1, r2) := h
  clear h
  obtain ⟨y413, hy413⟩ : ∃ y_ : List ByteArray, y_ = (([a0, a1] : List ByteArray)) := ⟨_, rfl⟩
  replace H : ((feature_parseAll.f k y413).bind fun bt416 => (if bt416.2 = 0 then (if 0 < (bt416.1.length : Int) then (feature_Subset.l0 k bt416.1 (rd_L1 bt416.1 0) ((rd_L1 bt416.1 0).length : Int) 0) else (none)) else (some (false, bt416.2)))) = some (r1, r2) := by first | (rw [hy413]; with_reducible exact H) | (have H2_ := (Option.bind_some _ _).symm.trans H; rw [hy413]; with_reducible exact H2_) | (have H2_ := (Option.bind_some _ _).symm.trans H; with_reducible exact H2_) | with_reducible exact H | (rw [hy413]; exact H) | exact H
  have Ny413 := Aside0.mk hy413
  clear hy413
  replace H := Option.bind_eq_some_iff.mp H
  obtain ⟨⟨t416, t417⟩, A30, H⟩ := H
  replace H : (if t417 = 0 then (if 0 < (t416.length : Int) then (feature_Subset.l0 k t416 (rd_L1 t416 0) ((rd_L1 t416 0).length : Int) 0) else (none)) else (some (false, t417))) = some (r1, r2) := H
  have A3 := Aside0.mk A30
  clear A30
  by_cases c4 : t417 = 0
  · rw [if_pos c4] at H
    have c4b0 : (t417 == 0) = true := beq_iff_eq.mpr c4
    have c4b1 : (t417 != 0) = false := bne_eq_false_iff_eq.mpr c4
    clear c4
    by_cases c5 : 0 < (t416.length : Int)
    · rw [if_pos c5] at H
      have c5b0 : decide (0 < (t416.length : Int)) = true := decide_eq_true c5
      have c5b1 : decide (0 < t416.length) = true := decide_eq_true (by omega)
      clear c5
      have H' := Aside0.mk H
      clear H
      go_enter Try.func24, Try.ntmps24
      go_wp2_with (first | ((with_reducible refine gate_dst (N := 13) rfl ?_); refine Kd.R_lit Kd.string _ 9 ?hg (N := 13) ?hd (xs := ([a0, a1] : List ByteArray)) (inner := [.string a0, .string a1]) (ok := fun _ => True) (okp := fun _ => True) ?hr ?hp (fun _ hk => hk) trivial (Below.refl _ _) (Nat.le_refl _) (by simp) ?_; (case hd => rfl); (case hg => rfl); (case hr => first | (go_simp; done) | (go_simp; rfl)); (case hp => exact (Reps.one (show Kd.M Kd.string _ _ _ a0 [.string a0] from rfl) (Reps.one (show Kd.M Kd.string _ _ _ a1 [.string a1] from rfl) (Reps.none _ _)))); intro v414 w6 ho7 hb hg_ hnew_; clear hg_ hnew_; (first | rw [← Ny413.out] at ho7 | (simp only [Int.reduceToNat] at ho7; rw [← Ny413.out] at ho7)); have n0_ := Aside0.mk (Kd.R_lower ho7 (below_size (by repeat (first | (with_reducible first | exact HB.out | apply below_alloc | apply pw_below_drewN | apply below_drew1) | exact HB.out)))); have n1_ := Aside0.mk (below_step (by repeat (first | (with_reducible first | exact HB.out | apply below_alloc | apply pw_below_drewN | apply below_drew1) | exact HB.out)) hb); clear HB; have HO415 := n0_; have HB := n1_; clear n0_ n1_; clear hb ho7; obtain ⟨Ao8, co8, eo8⟩ := Kd.R_slice HO415.out; subst eo8) | ((with_reducible refine gate_callee (f := 35) rfl ?_); refine goesL_ (some 14) rfl rfl Try.func35 (by kernel_rfl) rfl #[.slice Ao8 y413.length co8] rfl (by (try simp only [List.map_toArray, List.map_cons, List.map_nil]); first | done | rfl | (simp only [List.length_drop, List.length_take]; rfl)) ?_; (with_reducible refine (feature_parseAll.calls k _ _ y413 t416 t417 _ ?side1 ?side2 A3.out).mono ?_); (case side1 => repeat (first | exact (Kd.R_reads' HO415.out).2.2 | (with_reducible refine Kd.C_alloc ?_ _) | (with_reducible refine Kd.C_drewN ?_ _) | (with_reducible refine Kd.C_drew ?_))); (case side2 => exact (Kd.R_reads' HO415.out).2.1); rintro e w9 ⟨v418, rfl, ho0, hb⟩; refine ⟨_, rfl, ?_⟩; have n0_ := Aside0.mk (Kd.R_below (by (with_reducible repeat (first | apply Kd.R_alloc | apply Kd.R_drewN | apply Kd.R_drew)); exact HO415.out) hb); have n1_ := Aside0.mk (Kd.S_lower (Kd.S_new' ho0 (Kd.R_lt (by (with_reducible repeat (first | apply Kd.R_alloc | apply Kd.R_drewN | apply Kd.R_drew)); exact HO415.out))) (below_size (by repeat (first | (with_reducible first | exact HB.out | apply below_alloc | apply pw_below_drewN | apply below_drew1) | exact HB.out)))); have n2_ := Aside0.mk (below_step (by repeat (first | (with_reducible first | exact HB.out | apply below_alloc | apply pw_below_drewN | apply below_drew1) | exact HB.out)) hb); clear HO415; clear HB; have HO415 := n0_; have HO419 := n1_; have HB := n2_; clear n0_ n1_ n2_; (try clear hb); (try clear hb2); (try clear hk); (try clear hi); (try clear ho0); obtain ⟨Ao10, co10, eo10⟩ := Kd.S_slice HO419.out; subst eo10; have p420 : 0 ≤ (0 : Int) := (by omega); have q420 : 0 < (t416.length : Int) := of_decide_eq_true (by first | (with_reducible assumption) | assumption); obtain ⟨ad420, A420_0, c420_0, e420, hx420_0, hl420_0, hi420_0⟩ := at_L1 (Kd.S_reads' HO419.out).2.2 0 p420 q420; cases e420; obtain ⟨ce420, hce420, hMe420, hcc420⟩ := Kd.S_get HO419.out [] 0 p420 (by first | exact q420 | exact of_decide_eq_true (by first | (with_reducible assumption) | assumption) | (have e_ := (Kd.S_reads' HO419.out).1; omega)); obtain ⟨ve420_0, rfl, ge420_0⟩ := hMe420; have hv420_0 := hcc420 0 _ rfl; rw [Nat.add_zero, show ((Kd.slice 9 Kd.string)).sz = 1 from rfl, Nat.mul_one] at hv420_0; replace hv420_0 := Option.some.inj (hv420_0.symm.trans hx420_0); rw [hv420_0] at ge420_0; have HL420_0 := Aside0.mk (show Kd.R Kd.string 9 _ _ _ _ (rd_L1 t416 0) from ge420_0); clear hv420_0 ge420_0; clear hcc420 hce420; have qi420 : (0 < t416.length) = True := eq_true (by omega); (try rw [show ((0 : Int)).toNat = 0 from rfl] at hx420_0); (try rw [Addr.add_zero'] at hx420_0); have HR420_0 := Aside0.mk hi420_0; have HC420_0 := Aside0.mk hl420_0; clear hi420_0 hl420_0; replace p420 := eq_true p420; replace q420 := eq_true q420))
      go_loopg [24] k (fun kq v24 w' => ∃ (x24_1 : Int), v24 = .int .i64 x24_1 ∧ Aside0 (feature_Subset.l0 kq t416 (rd_L1 t416 0) ((rd_L1 t416 0).length : Int) x24_1 = some (r1, r2)) ∧ Aside0 (kq ≤ k) ∧ Aside0 (Kd.S (Kd.slice 9 Kd.string) 23 w' w.heap.size (fun _ => True) (.slice (some ad420) t416.length co10) t416) ∧ Aside0 (Kd.C Kd.string w' A420_0 (rd_L1 t416 0).length (rd_L1 t416 0)) ∧ Aside0 (Below w.heap.size w w'))
      case atStart => exact ⟨(0), (by first | rfl | (simp; done) | (simp [*]; done)), H', ⟨Nat.le_refl _⟩, ⟨by (with_reducible repeat (first | apply Kd.S_alloc | apply Kd.S_drewN | apply Kd.S_drew)); exact Kd.S_mono HO419.out (fun _ hk => trivial)⟩, ⟨by repeat (first | (with_reducible exact HR420_0.out) | (with_reducible refine Kd.C_alloc ?_ _) | (with_reducible refine Kd.C_drewN ?_ _) | (with_reducible refine Kd.C_drew ?_) | exact HR420_0.out)⟩, ⟨by repeat (first | (with_reducible first | exact HB.out | apply below_alloc | apply pw_below_drewN | apply below_drew1) | exact HB.out)⟩⟩
      case round =>
        clear H'
        try clear c2
        try clear p2
        try clear c3
        try clear c4
        try clear c4b0
        try clear c4b1
        try clear p4
        try clear q4
        try clear hx4
        try clear qi4
        try clear c5
        try clear c5b0
        try clear c5b1
        try clear hx420_0
        try clear p420
        try clear q420
        obtain ⟨x24_1, rfl, HA, HK1, HO_6, HR420_0, HB⟩ := hrel
        cases gk with
        | zero => exact absurd HA.out (by simp [feature_Subset.l0])
        | succ k1 =>
          have H := HA.out
          clear HA
          simp only [feature_Subset.l0] at H
          by_cases c11 : x24_1 < ((rd_L1 t416 0).length : Int)
          · rw [if_pos c11] at H
            have c11b0 : decide (x24_1 < ((rd_L1 t416 0).length : Int)) = true := decide_eq_true c11
            clear c11
            by_cases c12 : 0 ≤ x24_1
            · rw [if_pos c12] at H
              have c12b0 : decide (0 ≤ x24_1) = true := decide_eq_true c12
              clear c12
              by_cases c13 : x24_1 < ((rd_L1 t416 0).length : Int)
              · rw [if_pos c13] at H
                have c13b0 : decide (x24_1 < ((rd_L1 t416 0).length : Int)) = true := decide_eq_true c13
                clear c13
                by_cases c14 : 1 < (t416.length : Int)
                · rw [if_pos c14] at H
                  have c14b0 : decide (1 < (t416.length : Int)) = true := decide_eq_true c14
                  have c14b1 : decide (1 < t416.length) = true := decide_eq_true (by omega)
                  clear c14
                  replace H := Option.bind_eq_some_iff.mp H
                  obtain ⟨t423, A150, H⟩ := H
                  replace H : (if t423 = true then (feature_Subset.l0 k1 t416 (rd_L1 t416 0) ((rd_L1 t416 0).length : Int) (wrap64 (x24_1 + 1))) else (some (false, 0))) = some (r1, r2) := H
                  have A15 := Aside0.mk A150
                  clear A150
                  by_cases c16 : t423 = true
                  · subst c16
                    have H1 : (feature_Subset.l0 k1 t416 (rd_L1 t416 0) ((rd_L1 t416 0).length : Int) (wrap64 (x24_1 + 1))) = some (r1, r2) := by rw [if_pos rfl] at H; exact H
                    clear H
                    have H := H1
                    clear H1
                    have H' := Aside0.mk H
                    clear H
                    have p421 : 0 ≤ (x24_1 : Int) := of_decide_eq_true (by first | (with_reducible assumption) | assumption)
                    have q421 : x24_1 < ((rd_L1 t416 0).length : Int) := of_decide_eq_true (by first | (with_reducible assumption) | assumption)
                    obtain ⟨ad421, e421, hx421_0⟩ := Kd.at_string HR420_0.out x24_1 p421 q421
                    cases e421
                    replace p421 := eq_true p421
                    replace q421 := eq_true q421
                    have p422 : 0 ≤ (1 : Int) := (by omega)
                    have q422 : 1 < (t416.length : Int) := of_decide_eq_true (by first | (with_reducible assumption) | assumption)
                    obtain ⟨ad422, A422_0, c422_0, e422, hx422_0, hl422_0, hi422_0⟩ := at_L1 (Kd.S_reads' HO_6.out).2.2 1 p422 q422
                    obtain rfl : ad420 = ad422 := (by injection e422)
                    obtain ⟨ce422, hce422, hMe422, hcc422⟩ := Kd.S_get HO_6.out [] 1 p422 (by first | exact q422 | exact of_decide_eq_true (by first | (with_reducible assumption) | assumption) | (have e_ := (Kd.S_reads' HO_6.out).1; omega))
                    obtain ⟨ve422_0, rfl, ge422_0⟩ := hMe422
                    have hv422_0 := hcc422 0 _ rfl
                    rw [Nat.add_zero, show ((Kd.slice 9 Kd.string)).sz = 1 from rfl, Nat.mul_one] at hv422_0
                    replace hv422_0 := Option.some.inj (hv422_0.symm.trans hx422_0)
                    rw [hv422_0] at ge422_0
                    have HL422_0 := Aside0.mk (show Kd.R Kd.string 9 _ _ _ _ (rd_L1 t416 1) from ge422_0)
                    clear hv422_0 ge422_0
                    clear hcc422 hce422
                    (try simp only [show (1 : Int).toNat = 1 from rfl, Nat.reduceMul, Nat.reduceEqDiff, Go.Addr.add, ↓reduceIte] at hx422_0)
                    have qi422 : (1 < t416.length) = True := eq_true (by omega)
                    (try rw [show ((1 : Int)).toNat = 1 from rfl] at hx422_0)
                    have HR422_0 := Aside0.mk hi422_0
                    have HC422_0 := Aside0.mk hl422_0
                    clear hi422_0 hl422_0
                    replace p422 := eq_true p422
                    replace q422 := eq_true q422
                    go_wp2_with (first | ((with_reducible refine gate_callee (f := 33) rfl ?_); refine goesL_ (some 32) rfl rfl Try.func33 (by kernel_rfl) rfl #[.slice A422_0 (rd_L1 t416 1).length c422_0, .string (rdOf ByteArray.empty (rd_L1 t416 0) x24_1)] rfl (by (try simp only [List.map_toArray, List.map_cons, List.map_nil]); first | done | rfl | (simp only [List.length_drop, List.length_take]; rfl)) ?_; (with_reducible refine (feature_contains.calls k1 _ _ (rd_L1 t416 1) (rdOf ByteArray.empty (rd_L1 t416 0) x24_1) true _ ?side1 ?side2 A15.out).mono ?_); (case side1 => repeat (first | exact (by repeat (first | (with_reducible exact HR422_0.out) | (with_reducible refine Kd.C_alloc ?_ _) | (with_reducible refine Kd.C_drewN ?_ _) | (with_reducible refine Kd.C_drew ?_) | exact HR422_0.out)) | (with_reducible refine Kd.C_alloc ?_ _) | (with_reducible refine Kd.C_drewN ?_ _) | (with_reducible refine Kd.C_drew ?_))); (case side2 => exact HC422_0.out); rintro e w' ⟨rfl, ⟨nd, rfl⟩⟩; refine ⟨_, rfl, ?_⟩))
                    go_roundg k1
                    case measure => have := HK1.out; omega
                    case rel => exact ⟨(wrap64 (x24_1 + 1)), (by first | rfl | (simp; done) | (simp [*]; done)), H', ⟨by have := HK1.out; omega⟩, ⟨by (with_reducible repeat (first | apply Kd.S_alloc | apply Kd.S_drewN | apply Kd.S_drew)); exact HO_6.out⟩, ⟨by repeat (first | (with_reducible exact HR420_0.out) | (with_reducible refine Kd.C_alloc ?_ _) | (with_reducible refine Kd.C_drewN ?_ _) | (with_reducible refine Kd.C_drew ?_) | exact HR420_0.out)⟩, ⟨by repeat (first | (with_reducible first | exact HB.out | apply below_alloc | apply pw_below_drewN | apply below_drew1) | exact HB.out)⟩⟩
                  · replace c16 := Bool.eq_false_iff.mpr c16
                    subst c16
                    have H1 : (some (false, 0)) = some (r1, r2) := by rw [if_neg (show ¬ (false = true) by decide)] at H; exact H
                    clear H
                    have H := H1
                    clear H1
                    simp only [Option.some.injEq, Prod.mk.injEq] at H
                    obtain ⟨rfl, rfl⟩ := H
                    have p421 : 0 ≤ (x24_1 : Int) := of_decide_eq_true (by first | (with_reducible assumption) | assumption)
                    have q421 : x24_1 < ((rd_L1 t416 0).length : Int) := of_decide_eq_true (by first | (with_reducible assumption) | assumption)
                    obtain ⟨ad421, e421, hx421_0⟩ := Kd.at_string HR420_0.out x24_1 p421 q421
                    cases e421
                    replace p421 := eq_true p421
                    replace q421 := eq_true q421
                    have p422 : 0 ≤ (1 : Int) := (by omega)
                    have q422 : 1 < (t416.length : Int) := of_decide_eq_true (by first | (with_reducible assumption) | assumption)
                    obtain ⟨ad422, A422_0, c422_0, e422, hx422_0, hl422_0, hi422_0⟩ := at_L1 (Kd.S_reads' HO_6.out).2.2 1 p422 q422
                    obtain rfl : ad420 = ad422 := (by injection e422)
                    obtain ⟨ce422, hce422, hMe422, hcc422⟩ := Kd.S_get HO_6.out [] 1 p422 (by first | exact q422 | exact of_decide_eq_true (by first | (with_reducible assumption) | assumption) | (have e_ := (Kd.S_reads' HO_6.out).1; omega))
                    obtain ⟨ve422_0, rfl, ge422_0⟩ := hMe422
                    have hv422_0 := hcc422 0 _ rfl
                    rw [Nat.add_zero, show ((Kd.slice 9 Kd.string)).sz = 1 from rfl, Nat.mul_one] at hv422_0
                    replace hv422_0 := Option.some.inj (hv422_0.symm.trans hx422_0)
                    rw [hv422_0] at ge422_0
                    have HL422_0 := Aside0.mk (show Kd.R Kd.string 9 _ _ _ _ (rd_L1 t416 1) from ge422_0)
                    clear hv422_0 ge422_0
                    clear hcc422 hce422
                    (try simp only [show (1 : Int).toNat = 1 from rfl, Nat.reduceMul, Nat.reduceEqDiff, Go.Addr.add, ↓reduceIte] at hx422_0)
                    have qi422 : (1 < t416.length) = True := eq_true (by omega)
                    (try rw [show ((1 : Int)).toNat = 1 from rfl] at hx422_0)
                    have HR422_0 := Aside0.mk hi422_0
                    have HC422_0 := Aside0.mk hl422_0
                    clear hi422_0 hl422_0
                    replace p422 := eq_true p422
                    replace q422 := eq_true q422
                    go_wp2_with (first | ((with_reducible refine gate_callee (f := 33) rfl ?_); refine goesL_ (some 32) rfl rfl Try.func33 (by kernel_rfl) rfl #[.slice A422_0 (rd_L1 t416 1).length c422_0, .string (rdOf ByteArray.empty (rd_L1 t416 0) x24_1)] rfl (by (try simp only [List.map_toArray, List.map_cons, List.map_nil]); first | done | rfl | (simp only [List.length_drop, List.length_take]; rfl)) ?_; (with_reducible refine (feature_contains.calls k1 _ _ (rd_L1 t416 1) (rdOf ByteArray.empty (rd_L1 t416 0) x24_1) false _ ?side1 ?side2 A15.out).mono ?_); (case side1 => repeat (first | exact (by repeat (first | (with_reducible exact HR422_0.out) | (with_reducible refine Kd.C_alloc ?_ _) | (with_reducible refine Kd.C_drewN ?_ _) | (with_reducible refine Kd.C_drew ?_) | exact HR422_0.out)) | (with_reducible refine Kd.C_alloc ?_ _) | (with_reducible refine Kd.C_drewN ?_ _) | (with_reducible refine Kd.C_drew ?_))); (case side2 => exact HC422_0.out); rintro e w' ⟨rfl, ⟨nd, rfl⟩⟩; refine ⟨_, rfl, ?_⟩))
                    go_ret2
                    exact ⟨by first | rfl | (simp [errW_none, errW_some] <;> rfl) | (simp [*, errW_none, errW_some] <;> rfl), by repeat (first | (with_reducible first | exact HB.out | apply below_alloc | apply pw_below_drewN | apply below_drew1) | exact HB.out)⟩
                · rw [if_neg c14] at H
                  exact absurd H (by simp)
              · rw [if_neg c13] at H
                exact absurd H (by simp)
            · rw [if_neg c12] at H
              exact absurd H (by simp)
          · rw [if_neg c11] at H
            have c11b0 : decide (x24_1 < ((rd_L1 t416 0).length : Int)) = false := decide_eq_false c11
            clear c11
            simp only [Option.some.injEq, Prod.mk.injEq] at H
            obtain ⟨rfl, rfl⟩ := H
            go_wp2
            go_ret2
            exact ⟨by first | rfl | (simp [errW_none, errW_some] <;> rfl) | (simp [*, errW_none, errW_some] <;> rfl), by repeat (first | (with_reducible first | exact HB.out | apply below_alloc | apply pw_below_drewN | apply below_drew1) | exact HB.out)⟩
    · rw [if_neg c5] at H
      exact absurd H (by simp)
  · rw [if_neg c4] at H
    have c4b0 : (t417 == 0) = false := beq_eq_false_iff_ne.mpr c4
    have c4b1 : (t417 != 0) = true := bne_iff_ne.mpr c4
    simp only [Option.some.injEq, Prod.mk.injEq] at H
    obtain ⟨rfl, rfl⟩ := H
    go_enter Try.func24, Try.ntmps24
    go_wp2_with (first | ((with_reducible refine gate_dst (N := 13) rfl ?_); refine Kd.R_lit Kd.string _ 9 ?hg (N := 13) ?hd (xs := ([a0, a1] : List ByteArray)) (inner := [.string a0, .string a1]) (ok := fun _ => True) (okp := fun _ => True) ?hr ?hp (fun _ hk => hk) trivial (Below.refl _ _) (Nat.le_refl _) (by simp) ?_; (case hd => rfl); (case hg => rfl); (case hr => first | (go_simp; done) | (go_simp; rfl)); (case hp => exact (Reps.one (show Kd.M Kd.string _ _ _ a0 [.string a0] from rfl) (Reps.one (show Kd.M Kd.string _ _ _ a1 [.string a1] from rfl) (Reps.none _ _)))); intro v414 w17 ho18 hb hg_ hnew_; clear hg_ hnew_; (first | rw [← Ny413.out] at ho18 | (simp only [Int.reduceToNat] at ho18; rw [← Ny413.out] at ho18)); have n0_ := Aside0.mk (Kd.R_lower ho18 (below_size (by repeat (first | (with_reducible first | exact HB.out | apply below_alloc | apply pw_below_drewN | apply below_drew1) | exact HB.out)))); have n1_ := Aside0.mk (below_step (by repeat (first | (with_reducible first | exact HB.out | apply below_alloc | apply pw_below_drewN | apply below_drew1) | exact HB.out)) hb); clear HB; have HO415 := n0_; have HB := n1_; clear n0_ n1_; clear hb ho18; obtain ⟨Ao19, co19, eo19⟩ := Kd.R_slice HO415.out; subst eo19) | ((with_reducible refine gate_callee (f := 35) rfl ?_); refine goesL_ (some 14) rfl rfl Try.func35 (by kernel_rfl) rfl #[.slice Ao19 y413.length co19] rfl (by (try simp only [List.map_toArray, List.map_cons, List.map_nil]); first | done | rfl | (simp only [List.length_drop, List.length_take]; rfl)) ?_; (with_reducible refine (feature_parseAll.calls k _ _ y413 t416 t417 _ ?side1 ?side2 A3.out).mono ?_); (case side1 => repeat (first | exact (Kd.R_reads' HO415.out).2.2 | (with_reducible refine Kd.C_alloc ?_ _) | (with_reducible refine Kd.C_drewN ?_ _) | (with_reducible refine Kd.C_drew ?_))); (case side2 => exact (Kd.R_reads' HO415.out).2.1); rintro e w20 ⟨v418, rfl, ho0, hb⟩; refine ⟨_, rfl, ?_⟩; have n0_ := Aside0.mk (Kd.R_below (by (with_reducible repeat (first | apply Kd.R_alloc | apply Kd.R_drewN | apply Kd.R_drew)); exact HO415.out) hb); have n1_ := Aside0.mk (Kd.S_lower (Kd.S_new' ho0 (Kd.R_lt (by (with_reducible repeat (first | apply Kd.R_alloc | apply Kd.R_drewN | apply Kd.R_drew)); exact HO415.out))) (below_size (by repeat (first | (with_reducible first | exact HB.out | apply below_alloc | apply pw_below_drewN | apply below_drew1) | exact HB.out)))); have n2_ := Aside0.mk (below_step (by repeat (first | (with_reducible first | exact HB.out | apply below_alloc | apply pw_below_drewN | apply below_drew1) | exact HB.out)) hb); clear HO415; clear HB; have HO415 := n0_; have HO419 := n1_; have HB := n2_; clear n0_ n1_ n2_; (try clear hb); (try clear hb2); (try clear hk); (try clear hi); (try clear ho0)))
    go_ret2
    exact ⟨by first | rfl | (simp [errW_none, errW_some] <;> rfl) | (simp [*, errW_none, errW_some] <;> rfl), by repeat (first | (with_reducible first | exact HB.out | apply below_alloc | apply pw_below_drewN | apply below_drew1) | exact HB.out)⟩

end Go.Proofs.Ytcgglamgemgeiaa.Q
/- FFeatureHas -/
namespace Go.Proofs.Ytcgglamgemgeiaa.Q
open Go.RowKit Go.Proofs.YtcgglamgemgeiaaW.PrintWords Go.Proofs.YtcgglamgemgeiaaW.PrintLast Go.Proofs.YtcgglamgemgeiaaW.PrintMore
attribute [local go_sem] max2_int min2_int max_two min_two max_three min_three max_four min_four   -- for this text's walks alone
set_option linter.unusedVariables false
set_option linter.unusedSimpArgs false

/-! ### feature_Has: function 18 -/
def feature_Has.f (k : Nat) (a0 : ByteArray) (a1 : ByteArray) : Option (Bool) := (feature_Parse.f k a0).bind fun bt321 => (if bt321.2 = 0 then ((feature_contains.f k bt321.1 a1).bind fun t325 => (some t325)) else (some false))
theorem feature_Has.mono : ∀ a0 a1 k, LeO (feature_Has.f k a0 a1) (feature_Has.f (k + 1) a0 a1) := by
  intro a0 a1 k
  unfold feature_Has.f
  repeat' first
      | (with_reducible exact feature_Parse.mono _ _)
      | (with_reducible exact feature_contains.mono _ _ _)
      | (with_reducible exact LeO.refl _)
      | (with_reducible exact LeO.none _)
      | (with_reducible refine LeO.ite ?_ ?_)
      | (with_reducible refine LeO.bind ?_ (fun _ => ?_))
      | exact feature_Parse.mono _ _
      | exact feature_contains.mono _ _ _
      | exact LeO.none _
      | refine LeO.ite ?_ ?_
      | refine LeO.bind ?_ (fun _ => ?_)
set_option maxHeartbeats 8000000 in
set_option maxRecDepth 100000 in
theorem feature_Has.calls (k : Nat) (a0 : ByteArray) (a1 : ByteArray) (r : Bool) (w : World) (h : feature_Has.f k a0 a1 = some r) :
    Calls Try.prog 18 #[.string a0, .string a1] w fun e w' => e = .returned (.bool r) ∧ Below w.heap.size w w' := by
  have HB := Aside0.mk (Below.refl w.heap.size w)
  have H : ((feature_Parse.f k a0).bind fun bt321 => (if bt321.2 = 0 then ((feature_contains.f k bt321.1 a1).bind fun t325 => (some t325)) else (some false))) = some r := h
  clear h
  replace H := Option.bind_eq_some_iff.mp H
  obtain ⟨⟨t321, t322⟩, A30, H⟩ := H
  replace H : (if t322 = 0 then ((feature_contains.f k t321 a1).bind fun t325 => (some t325)) else (some false)) = some r := H
  have A3 := Aside0.mk A30
  clear A30
  by_cases c4 : t322 = 0
  · rw [if_pos c4] at H
    have c4b0 : (t322 == 0) = true := beq_iff_eq.mpr c4
    have c4b1 : (t322 != 0) = false := bne_eq_false_iff_eq.mpr c4
    clear c4
    replace H := Option.bind_eq_some_iff.mp H
    obtain ⟨t325, A50, H⟩ := H
    replace H : (some t325) = some r := H
    have A5 := Aside0.mk A50
    clear A50
    obtain rfl := Option.some.inj H
    go_enter Try.func18, Try.ntmps18
    go_wp2_with (first | ((with_reducible refine gate_callee (f := 12) rfl ?_); refine goesL_ (some 9) rfl rfl Try.func12 (by kernel_rfl) rfl #[.string a0] rfl (by (try simp only [List.map_toArray, List.map_cons, List.map_nil]); first | done | rfl | (simp only [List.length_drop, List.length_take]; rfl)) ?_; (with_reducible refine (feature_Parse.calls k a0 t321 t322 _ A3.out).mono ?_); rintro e w6 ⟨v323, rfl, ho0, hb⟩; refine ⟨_, rfl, ?_⟩; have n0_ := Aside0.mk (Kd.R_lower ho0 (below_size (by repeat (first | (with_reducible first | exact HB.out | apply below_alloc | apply pw_below_drewN | apply below_drew1) | exact HB.out)))); have n1_ := Aside0.mk (below_step (by repeat (first | (with_reducible first | exact HB.out | apply below_alloc | apply pw_below_drewN | apply below_drew1) | exact HB.out)) hb); clear HB; have HO324 := n0_; have HB := n1_; clear n0_ n1_; (try clear hb); (try clear hb2); (try clear hk); (try clear hi); (try clear ho0); obtain ⟨Ao7, co7, eo7⟩ := Kd.R_slice HO324.out; subst eo7) | (go_at_call 33; (with_reducible refine (feature_contains.calls k _ _ t321 a1 t325 _ ?side1 ?side2 A5.out).mono ?_); (case side1 => repeat (first | exact (Kd.R_reads' HO324.out).2.2 | (with_reducible refine Kd.C_alloc ?_ _) | (with_reducible refine Kd.C_drewN ?_ _) | (with_reducible refine Kd.C_drew ?_))); (case side2 => exact (Kd.R_reads' HO324.out).2.1); rintro e w' ⟨rfl, ⟨nd, rfl⟩⟩))
    go_ret
    exact ⟨by first | rfl | (simp [errW_none, errW_some] <;> rfl) | (simp [*, errW_none, errW_some] <;> rfl), by repeat (first | (with_reducible first | exact HB.out | apply below_alloc | apply pw_below_drewN | apply below_drew1) | exact HB.out)⟩
  · rw [if_neg c4] at H
    have c4b0 : (t322 == 0) = false := beq_eq_false_iff_ne.mpr c4
    have c4b1 : (t322 != 0) = true := bne_iff_ne.mpr c4
    obtain rfl := Option.some.inj H
    go_enter Try.func18, Try.ntmps18
    go_wp2_with (first | ((with_reducible refine gate_callee (f := 12) rfl ?_); refine goesL_ (some 9) rfl rfl Try.func12 (by kernel_rfl) rfl #[.string a0] rfl (by (try simp only [List.map_toArray, List.map_cons, List.map_nil]); first | done | rfl | (simp only [List.length_drop, List.length_take]; rfl)) ?_; (with_reducible refine (feature_Parse.calls k a0 t321 t322 _ A3.out).mono ?_); rintro e w8 ⟨v323, rfl, ho0, hb⟩; refine ⟨_, rfl, ?_⟩; have n0_ := Aside0.mk (Kd.R_lower ho0 (below_size (by repeat (first | (with_reducible first | exact HB.out | apply below_alloc | apply pw_below_drewN | apply below_drew1) | exact HB.out)))); have n1_ := Aside0.mk (below_step (by repeat (first | (with_reducible first | exact HB.out | apply below_alloc | apply pw_below_drewN | apply below_drew1) | exact HB.out)) hb); clear HB; have HO324 := n0_; have HB := n1_; clear n0_ n1_; (try clear hb); (try clear hb2); (try clear hk); (try clear hi); (try clear ho0)))
    go_ret
    exact ⟨by first | rfl | (simp [errW_none, errW_some] <;> rfl) | (simp [*, errW_none, errW_some] <;> rfl), by repeat (first | (with_reducible first | exact HB.out | apply below_alloc | apply pw_below_drewN | apply below_drew1) | exact HB.out)⟩

end Go.Proofs.Ytcgglamgemgeiaa.Q
/- FEv3 -/
namespace Go.Proofs.Ytcgglamgemgeiaa.Q
open Go.RowKit Go.Lib Go.Proofs.YtcgglamgemgeiaaW.PrintWords Go.Proofs.YtcgglamgemgeiaaW.PrintLast
theorem PR_len (s : ByteArray) : (PR s).1.length ≤ 120 := by
  by_cases h : (PR s).2 = 0
  · obtain ⟨h1, _, _, h4⟩ := PR_ok (PR_eta h)
    have h5 : s.size = 1 + (tailT (PR s).1).length := by rw [← size_text, ← h1]
    have := len_tail (PR s).1
    omega
  · rw [PR_err h]; simp
/-- The answer of parseAll at two sets. -/
def PA (a b : ByteArray) : List (List ByteArray) × Int := if (PR a).2 ≠ 0 then ([], (PR a).2) else if (PR b).2 ≠ 0 then ([], (PR b).2) else ([(PR a).1, (PR b).1], 0)
theorem parseAll_ev (a b : ByteArray) : Ev (fun k => feature_parseAll.f k [a, b]) (PA a b) := by
  unfold feature_parseAll.f PA
  have w1 : wrap64 ((0 : Int) + 1) = 1 := by unfold wrap64; omega
  have w2 : wrap64 ((1 : Int) + 1) = 2 := by unfold wrap64; omega
  have hl : (([a, b] : List ByteArray).length : Int) = 2 := rfl
  rw [hl]
  refine Ev.step (fun k => by rw [feature_parseAll.l0]) ?_
  refine ev_pos (by omega) (ev_pos (by omega) (ev_pos (by simp) ?_))
  rw [w1]
  refine Ev.bind (parse_ev a) ?_
  by_cases h1 : (PR a).2 = 0
  · refine ev_pos h1 (ev_pos (by simp) ?_)
    rw [if_neg (by simp [h1])]
    refine Ev.step (fun k => by rw [feature_parseAll.l0]) ?_
    refine ev_pos (by omega) (ev_pos (by omega) (ev_pos (by simp) ?_))
    rw [w2]
    refine Ev.bind (parse_ev b) ?_
    by_cases h2 : (PR b).2 = 0
    · refine ev_pos h2 (ev_pos (by simp) ?_)
      rw [if_neg (by simp [h2])]
      refine Ev.step (fun k => by rw [feature_parseAll.l0]) ?_
      exact ev_neg (by omega) (Ev.now _)
    · refine ev_neg h2 (ev_now ?_)
      rw [if_pos h2]
  · refine ev_neg h1 (ev_now ?_)
    rw [if_pos h1]
theorem union_ev (a b : ByteArray) : Ev (fun k => feature_Union.f k a b) (UN a b) := by
  unfold feature_Union.f
  refine Ev.bind (parseAll_ev a b) ?_
  unfold PA UN
  by_cases h1 : (PR a).2 = 0
  · by_cases h2 : (PR b).2 = 0
    · rw [if_neg (by simp [h1]), if_neg (by simp [h2]), if_neg (by simp [h1]), if_neg (by simp [h2])]
      have l1 := PR_len a
      have l2 := PR_len b
      refine ev_pos rfl (ev_pos (by simp) (ev_pos (by simp) (ev_pos (show (PR a).1.length + (PR b).1.length < 8796093022208 by omega) ?_)))
      refine Ev.bind (format_ev ((PR a).1 ++ (PR b).1) (by rw [List.length_append]; omega)) (ev_now rfl)
    · rw [if_neg (by simp [h1]), if_pos h2, if_neg (by simp [h1]), if_pos h2]
      exact ev_neg h2 (Ev.now _)
  · rw [if_pos h1, if_pos h1]
    exact ev_neg h1 (Ev.now _)
theorem intersect_loop (x y : List ByteArray) (hx : x.length ≤ 120) (hy : y.length ≤ 120) : ∀ (d i : Nat) (acc : List ByteArray), i + d = x.length → acc.length ≤ i →
    Ev (fun k => feature_Intersect.l0 k [x, y] acc x (x.length : Int) (i : Int)) (FM (acc ++ (x.drop i).filter (memb y))) := by
  intro d
  induction d with
  | zero =>
    intro i acc hd ha
    refine Ev.step (fun k => by rw [feature_Intersect.l0]) (ev_neg (by omega) ?_)
    rw [List.drop_eq_nil_of_le (by omega), List.filter_nil, List.append_nil]
    exact Ev.bind (format_ev acc (by omega)) (ev_now rfl)
  | succ d ih =>
    intro i acc hd ha
    have hi : i < x.length := by omega
    refine Ev.step (fun k => by rw [feature_Intersect.l0]) (ev_pos (by omega) (ev_pos (by omega) (ev_pos (by omega) (ev_pos (by simp) ?_))))
    rw [rd_nat hi]
    refine Ev.bind (contains_ev y x[i] (by omega)) ?_
    have hdr : x.drop i = x[i] :: x.drop (i + 1) := List.drop_eq_getElem_cons hi
    rw [wrap_up i (by omega)]
    cases hm : memb y x[i] with
    | true =>
      refine ev_pos rfl (ev_pos (by omega) ?_)
      refine ev_eq (ih (i + 1) _ (by omega) (by rw [List.length_append, List.length_singleton]; omega)) ?_
      rw [hdr, List.filter_cons, hm, if_pos rfl, List.append_assoc]; rfl
    | false =>
      refine ev_neg (by simp) ?_
      refine ev_eq (ih (i + 1) _ (by omega) (by omega)) ?_
      rw [hdr, List.filter_cons, hm, if_neg (by simp)]
theorem intersect_ev (a b : ByteArray) : Ev (fun k => feature_Intersect.f k a b) (IS a b) := by
  unfold feature_Intersect.f
  refine Ev.bind (parseAll_ev a b) ?_
  unfold PA IS
  by_cases h1 : (PR a).2 = 0
  · by_cases h2 : (PR b).2 = 0
    · rw [if_neg (by simp [h1]), if_neg (by simp [h2]), if_neg (by simp [h1]), if_neg (by simp [h2])]
      refine ev_pos rfl (ev_pos (by simp) ?_)
      refine ev_eq (intersect_loop (PR a).1 (PR b).1 (PR_len a) (PR_len b) (PR a).1.length 0 [] (by omega) (by simp)) ?_
      rw [List.drop_zero, List.nil_append]
      exact FM_same (filter_text (PR_eta h1) (memb (PR b).1)) (fun _ => Iff.rfl)
    · rw [if_neg (by simp [h1]), if_pos h2, if_neg (by simp [h1]), if_pos h2]
      exact ev_neg h2 (Ev.now _)
  · rw [if_pos h1, if_pos h1]
    exact ev_neg h1 (Ev.now _)
theorem subset_loop (x y : List ByteArray) (hx : x.length ≤ 120) (hy : y.length ≤ 120) : ∀ (d i : Nat), i + d = x.length →
    Ev (fun k => feature_Subset.l0 k [x, y] x (x.length : Int) (i : Int)) ((x.drop i).all (memb y), 0) := by
  intro d
  induction d with
  | zero =>
    intro i hd
    refine Ev.step (fun k => by rw [feature_Subset.l0]) (ev_neg (by omega) ?_)
    rw [List.drop_eq_nil_of_le (by omega)]
    exact Ev.now _
  | succ d ih =>
    intro i hd
    have hi : i < x.length := by omega
    refine Ev.step (fun k => by rw [feature_Subset.l0]) (ev_pos (by omega) (ev_pos (by omega) (ev_pos (by omega) (ev_pos (by simp) ?_))))
    rw [rd_nat hi]
    refine Ev.bind (contains_ev y x[i] (by omega)) ?_
    have hdr : x.drop i = x[i] :: x.drop (i + 1) := List.drop_eq_getElem_cons hi
    rw [wrap_up i (by omega)]
    cases hm : memb y x[i] with
    | true =>
      refine ev_pos rfl ?_
      refine ev_eq (ih (i + 1) (by omega)) ?_
      rw [hdr, List.all_cons, hm, Bool.true_and]
    | false =>
      refine ev_neg (by simp) (ev_now ?_)
      rw [hdr, List.all_cons, hm, Bool.false_and]
theorem subset_ev (a b : ByteArray) : Ev (fun k => feature_Subset.f k a b) (SB a b) := by
  unfold feature_Subset.f
  refine Ev.bind (parseAll_ev a b) ?_
  unfold PA SB
  by_cases h1 : (PR a).2 = 0
  · by_cases h2 : (PR b).2 = 0
    · rw [if_neg (by simp [h1]), if_neg (by simp [h2]), if_neg (by simp [h1]), if_neg (by simp [h2])]
      exact ev_pos rfl (ev_pos (by simp) (subset_loop (PR a).1 (PR b).1 (PR_len a) (PR_len b) (PR a).1.length 0 (by omega)))
    · rw [if_neg (by simp [h1]), if_pos h2, if_neg (by simp [h1]), if_pos h2]
      exact ev_neg h2 (Ev.now _)
  · rw [if_pos h1, if_pos h1]
    exact ev_neg h1 (Ev.now _)
theorem has_ev (s f : ByteArray) : Ev (fun k => feature_Has.f k s f) (HS s f) := by
  unfold feature_Has.f HS
  refine Ev.bind (parse_ev s) ?_
  by_cases h : (PR s).2 = 0
  · refine ev_pos h (Ev.bind (contains_ev _ f (by have := PR_len s; omega)) (ev_now ?_))
    simp [h]
  · refine ev_neg h (ev_now ?_)
    simp [h]
/-! ### the examples -/
theorem awake_fm : FM [(⟨#[98]⟩ : ByteArray), (⟨#[97]⟩ : ByteArray), (⟨#[98]⟩ : ByteArray)] = (⟨#[124, 97, 124, 98, 124]⟩, 0) := by decide +kernel
theorem awake_pr : PR (⟨#[124]⟩ : ByteArray) = ([], 0) := by decide +kernel
theorem awake_un : UN (⟨#[124, 97, 124]⟩ : ByteArray) (⟨#[124, 98, 124]⟩ : ByteArray) = (⟨#[124, 97, 124, 98, 124]⟩, 0) := by decide +kernel
theorem awake_ev : Ev (fun k => corporalaw05_awake.f k) true := by
  unfold corporalaw05_awake.f
  refine Ev.bind (format_ev _ (by simp)) (Ev.bind (parse_ev _) (Ev.bind (union_ev _ _) ?_))
  rw [awake_fm, awake_pr, awake_un]
  have e : (⟨#[124, 97, 124, 98, 124]⟩ : ByteArray).toList = ([124, 97, 124, 98, 124] : List UInt8) := by rw [toList_bl]; rfl
  exact ev_pos e (ev_pos rfl (ev_pos rfl (ev_pos rfl (ev_pos e (ev_now rfl)))))
end Go.Proofs.Ytcgglamgemgeiaa.Q
