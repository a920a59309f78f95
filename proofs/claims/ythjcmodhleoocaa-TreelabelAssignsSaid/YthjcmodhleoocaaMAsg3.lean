/- TreelabelAssigns: for every list of parents, Assign and the reference answer the same labels, or the same first error; no condition. -/
import Derived.Test.YthjcmodhleoocaaMAsg1
import Derived.Test.YthjcmodhleoocaaMAsg2
import Derived.Test.YthjcmodhleoocaaRows
import Derived.WalkKit
import Derived.ProofKit
import Derived.OpenShut
import Derived.ShutString
import Derived.ChangeOld
import Derived.Below
import Derived.SizedLaws
import Derived.Test.YthjcmodhleoocaaWSized
/- FCorporalaw10Awake -/
namespace Go.Proofs.Ythjcmodhleoocaa.Q
open Go.RowKit Go.Proofs.YthjcmodhleoocaaW.PrintWords Go.Proofs.YthjcmodhleoocaaW.PrintLast Go.Proofs.YthjcmodhleoocaaW.PrintMore
attribute [local go_sem] max2_int min2_int max_two min_two max_three min_three max_four min_four   -- for this text's walks alone
set_option linter.unusedVariables false
set_option linter.unusedSimpArgs false
attribute [local go_sem high] eqA41

/-! ### corporalaw10_awake: function 14 -/
def corporalaw10_awake.f (k : Nat)  : Option (Bool) := (treelabel_Assign.f k (([(-1), 0, 0, 1] : List Int))).bind fun bt194 => (if bt194.2.2 = 0 then (if bt194.2.1 = 0 then (if (bt194.1.length : Int) = 4 then (if 1 < (bt194.1.length : Int) then (if (((rd_T41 bt194.1 1).f0) == 1 && (((rd_T41 bt194.1 1).f1) == 1 && (((rd_T41 bt194.1 1).f2) == 1))) = true then (if 3 < (bt194.1.length : Int) then ((treelabel_Dominates.f ((rd_T41 bt194.1 1).f0) ((rd_T41 bt194.1 1).f1) ((rd_T41 bt194.1 1).f2) ((rd_T41 bt194.1 3).f0) ((rd_T41 bt194.1 3).f1) ((rd_T41 bt194.1 3).f2)).bind fun t202 => (if t202 = true then (if 2 < (bt194.1.length : Int) then ((treelabel_Precedes.f ((rd_T41 bt194.1 1).f0) ((rd_T41 bt194.1 1).f1) ((rd_T41 bt194.1 1).f2) ((rd_T41 bt194.1 2).f0) ((rd_T41 bt194.1 2).f1) ((rd_T41 bt194.1 2).f2)).bind fun t205 => (if t205 = true then ((treelabel_Common.f k bt194.1 3 2).bind fun t206 => (some (t206 == 0))) else (some false))) else (none)) else (some false))) else (none)) else (some false)) else (none)) else (some false)) else (some false)) else (some false))
theorem corporalaw10_awake.mono : ∀ k, LeO (corporalaw10_awake.f k ) (corporalaw10_awake.f (k + 1) ) := by
 intro  k
 unfold corporalaw10_awake.f
 repeat' first
   | (with_reducible exact treelabel_Assign.mono _ _)
   | (with_reducible exact treelabel_Common.mono _ _ _ _)
   | (with_reducible exact LeO.refl _)
   | (with_reducible exact LeO.none _)
   | (with_reducible refine LeO.ite ?_ ?_)
   | (with_reducible refine LeO.bind ?_ (fun _ => ?_))
   | exact treelabel_Assign.mono _ _
   | exact treelabel_Common.mono _ _ _ _
   | exact LeO.none _
   | refine LeO.ite ?_ ?_
   | refine LeO.bind ?_ (fun _ => ?_)
theorem awake_at : corporalaw10_awake.f 60 = some true := by decide +kernel
theorem awake_ev : Ev (fun k => corporalaw10_awake.f k) true := Ev.of (fun k => corporalaw10_awake.mono k) awake_at
def corporalaw10_awake.T2 : Bool × List (List Nat × List Nat) := (true, [([], []), ([0], [0]), ([1], [1]), ([2], [2]), ([3, 2], [2, 3]), ([2, 4], [2, 4]), ([5, 2], [5]), ([6], [6]), ([7, 6], [6, 7]), ([8, 6], [6, 8]), ([6, 9], [6, 9]), ([10, 6], [10]), ([11], [11]), ([12, 11], [11, 12]), ([13, 11], [11, 13]), ([11], [11]), ([14, 15, 11], [11, 14, 15]), ([11, 16], [11, 16]), ([17, 11], [17]), ([18], [18]), ([19, 18], [18, 19]), ([20, 18], [18, 20]), ([18], [18]), ([22, 18], [18, 22]), ([23, 18], [18, 23]), ([21, 24, 18, 18], [18, 21, 24]), ([18, 25], [18, 25]), ([26, 25], [26]), ([27], [27]), ([28, 27], [27, 28]), ([29, 27], [27, 29]), ([27], [27]), ([31, 27], [27, 31]), ([32, 27], [27, 32]), ([30, 33, 27, 27], [27, 30, 33]), ([27, 34], [27, 34]), ([35, 34], [35]), ([36], [36]), ([37, 36, 36], [36, 37]), ([38, 36], [36, 38]), ([36, 39], [36, 39]), ([40, 38, 0, 1, 2, 3, 4, 5, 6, 7, 8, 9, 10, 11, 12, 13, 14, 15, 16, 17, 18, 19, 20, 21, 22, 23, 24, 25, 26, 27, 28, 29, 30, 31, 32, 33, 34, 35, 36, 37, 38, 39, 40], [40])])
def corporalaw10_awake.B2 : List Nat := [0, 1, 3, 7, 15, 31, 63, 127, 255, 511, 1023, 2047, 4095, 8191, 16383, 4095, 65535, 131071, 262143, 524287, 1048575, 2097151, 524287, 4718591, 13107199, 33554431, 67108863, 134217727, 268435455, 536870911, 1073741823, 268435455, 2415919103, 6710886399, 17179869183, 34359738367, 68719476735, 137438953471, 274877906943, 549755813887, 1099511627775, 2199023255551]
theorem corporalaw10_awake.tab2 : rtab .any (opsOf Try.f14 2) = corporalaw10_awake.T2 := by kernel_rfl
theorem corporalaw10_awake.bits2 : waitsOk corporalaw10_awake.T2.2 corporalaw10_awake.B2 = true := by kernel_rfl
set_option maxHeartbeats 8000000 in
set_option maxRecDepth 100000 in
theorem corporalaw10_awake.calls (k : Nat)  (r : Bool) (w : World) (h : corporalaw10_awake.f k  = some r) :
  Calls Try.prog 14 #[] w fun e w' => e = .returned (.bool r) ∧ Below w.heap.size w w' := by
 have Hr : Aside0 (r = true) := by
  obtain ⟨K, hK⟩ := awake_ev
  have h1 : corporalaw10_awake.f (max K k) = some true := hK (max K k) (Nat.le_max_left _ _)
  have h2 := at_rounds (fun k => corporalaw10_awake.mono k) (Nat.le_max_right K k) h
  rw [h1] at h2
  exact ⟨(Option.some.inj h2).symm⟩
 have hu41 := Try.underlying41
 have HB := Aside0.mk (Below.refl w.heap.size w)
 have H : ((treelabel_Assign.f k (([(-1), 0, 0, 1] : List Int))).bind fun bt194 => (if bt194.2.2 = 0 then (if bt194.2.1 = 0 then (if (bt194.1.length : Int) = 4 then (if 1 < (bt194.1.length : Int) then (if (((rd_T41 bt194.1 1).f0) == 1 && (((rd_T41 bt194.1 1).f1) == 1 && (((rd_T41 bt194.1 1).f2) == 1))) = true then (if 3 < (bt194.1.length : Int) then ((treelabel_Dominates.f ((rd_T41 bt194.1 1).f0) ((rd_T41 bt194.1 1).f1) ((rd_T41 bt194.1 1).f2) ((rd_T41 bt194.1 3).f0) ((rd_T41 bt194.1 3).f1) ((rd_T41 bt194.1 3).f2)).bind fun t202 => (if t202 = true then (if 2 < (bt194.1.length : Int) then ((treelabel_Precedes.f ((rd_T41 bt194.1 1).f0) ((rd_T41 bt194.1 1).f1) ((rd_T41 bt194.1 1).f2) ((rd_T41 bt194.1 2).f0) ((rd_T41 bt194.1 2).f1) ((rd_T41 bt194.1 2).f2)).bind fun t205 => (if t205 = true then ((treelabel_Common.f k bt194.1 3 2).bind fun t206 => (some (t206 == 0))) else (some false))) else (none)) else (some false))) else (none)) else (some false)) else (none)) else (some false)) else (some false)) else (some false))) = some r := h
 clear h
 obtain ⟨y191, hy191⟩ : ∃ y_ : List Int, y_ = (([(-1), 0, 0, 1] : List Int)) := ⟨_, rfl⟩
 replace H : ((treelabel_Assign.f k y191).bind fun bt194 => (if bt194.2.2 = 0 then (if bt194.2.1 = 0 then (if (bt194.1.length : Int) = 4 then (if 1 < (bt194.1.length : Int) then (if (((rd_T41 bt194.1 1).f0) == 1 && (((rd_T41 bt194.1 1).f1) == 1 && (((rd_T41 bt194.1 1).f2) == 1))) = true then (if 3 < (bt194.1.length : Int) then ((treelabel_Dominates.f ((rd_T41 bt194.1 1).f0) ((rd_T41 bt194.1 1).f1) ((rd_T41 bt194.1 1).f2) ((rd_T41 bt194.1 3).f0) ((rd_T41 bt194.1 3).f1) ((rd_T41 bt194.1 3).f2)).bind fun t202 => (if t202 = true then (if 2 < (bt194.1.length : Int) then ((treelabel_Precedes.f ((rd_T41 bt194.1 1).f0) ((rd_T41 bt194.1 1).f1) ((rd_T41 bt194.1 1).f2) ((rd_T41 bt194.1 2).f0) ((rd_T41 bt194.1 2).f1) ((rd_T41 bt194.1 2).f2)).bind fun t205 => (if t205 = true then ((treelabel_Common.f k bt194.1 3 2).bind fun t206 => (some (t206 == 0))) else (some false))) else (none)) else (some false))) else (none)) else (some false)) else (none)) else (some false)) else (some false)) else (some false))) = some r := by first | (rw [hy191]; with_reducible exact H) | (have H2_ := (Option.bind_some _ _).symm.trans H; rw [hy191]; with_reducible exact H2_) | (have H2_ := (Option.bind_some _ _).symm.trans H; with_reducible exact H2_) | with_reducible exact H | (rw [hy191]; exact H) | exact H
 have Ny191 := Aside0.mk hy191
 clear hy191
 replace H := Option.bind_eq_some_iff.mp H
 obtain ⟨⟨t194, t195, t196⟩, A10, H⟩ := H
 replace H : (if t196 = 0 then (if t195 = 0 then (if (t194.length : Int) = 4 then (if 1 < (t194.length : Int) then (if (((rd_T41 t194 1).f0) == 1 && (((rd_T41 t194 1).f1) == 1 && (((rd_T41 t194 1).f2) == 1))) = true then (if 3 < (t194.length : Int) then ((treelabel_Dominates.f ((rd_T41 t194 1).f0) ((rd_T41 t194 1).f1) ((rd_T41 t194 1).f2) ((rd_T41 t194 3).f0) ((rd_T41 t194 3).f1) ((rd_T41 t194 3).f2)).bind fun t202 => (if t202 = true then (if 2 < (t194.length : Int) then ((treelabel_Precedes.f ((rd_T41 t194 1).f0) ((rd_T41 t194 1).f1) ((rd_T41 t194 1).f2) ((rd_T41 t194 2).f0) ((rd_T41 t194 2).f1) ((rd_T41 t194 2).f2)).bind fun t205 => (if t205 = true then ((treelabel_Common.f k t194 3 2).bind fun t206 => (some (t206 == 0))) else (some false))) else (none)) else (some false))) else (none)) else (some false)) else (none)) else (some false)) else (some false)) else (some false)) = some r := H
 have A1 := Aside0.mk A10
 clear A10
 by_cases c2 : t196 = 0
 ·rw [if_pos c2] at H
  have c2b0 : (t196 == 0) = true := beq_iff_eq.mpr c2
  have c2b1 : (t196 != 0) = false := bne_eq_false_iff_eq.mpr c2
  clear c2
  by_cases c3 : t195 = 0
  ·rw [if_pos c3] at H
   have c3b0 : (t195 == 0) = true := beq_iff_eq.mpr c3
   have c3b1 : (t195 != 0) = false := bne_eq_false_iff_eq.mpr c3
   clear c3
   by_cases c4 : (t194.length : Int) = 4
   ·rw [if_pos c4] at H
    have c4b0 : ((t194.length : Int) == 4) = true := beq_iff_eq.mpr c4
    have c4b1 : ((t194.length : Int) != 4) = false := bne_eq_false_iff_eq.mpr c4
    clear c4
    by_cases c5 : 1 < (t194.length : Int)
    ·rw [if_pos c5] at H
     have c5b0 : decide (1 < (t194.length : Int)) = true := decide_eq_true c5
     have c5b1 : decide (1 < t194.length) = true := decide_eq_true (by omega)
     clear c5
     by_cases c6 : (((rd_T41 t194 1).f0) == 1 && (((rd_T41 t194 1).f1) == 1 && (((rd_T41 t194 1).f2) == 1))) = true
     ·rw [if_pos c6] at H
      have c6b0 : (((rd_T41 t194 1).f0) == 1 && (((rd_T41 t194 1).f1) == 1 && (((rd_T41 t194 1).f2) == 1))) = true := c6
      (try (have c6b1 : decide (((rd_T41 t194 1).f0) = 1 && (((rd_T41 t194 1).f1) == 1 && (((rd_T41 t194 1).f2) == 1))) = true := by simpa using c6))
      (try (have c6b2 : (((rd_T41 t194 1).f0) == 1 && (((rd_T41 t194 1).f1) == 1 && (((rd_T41 t194 1).f2) == 1))) = true := by simpa using c6))
      clear c6
      by_cases c7 : 3 < (t194.length : Int)
      ·rw [if_pos c7] at H
       have c7b0 : decide (3 < (t194.length : Int)) = true := decide_eq_true c7
       have c7b1 : decide (3 < t194.length) = true := decide_eq_true (by omega)
       clear c7
       replace H := Option.bind_eq_some_iff.mp H
       obtain ⟨t202, A80, H⟩ := H
       replace H : (if t202 = true then (if 2 < (t194.length : Int) then ((treelabel_Precedes.f ((rd_T41 t194 1).f0) ((rd_T41 t194 1).f1) ((rd_T41 t194 1).f2) ((rd_T41 t194 2).f0) ((rd_T41 t194 2).f1) ((rd_T41 t194 2).f2)).bind fun t205 => (if t205 = true then ((treelabel_Common.f k t194 3 2).bind fun t206 => (some (t206 == 0))) else (some false))) else (none)) else (some false)) = some r := H
       have A8 := Aside0.mk A80
       clear A80
       by_cases c9 : t202 = true
       ·subst c9
        have H1 : (if 2 < (t194.length : Int) then ((treelabel_Precedes.f ((rd_T41 t194 1).f0) ((rd_T41 t194 1).f1) ((rd_T41 t194 1).f2) ((rd_T41 t194 2).f0) ((rd_T41 t194 2).f1) ((rd_T41 t194 2).f2)).bind fun t205 => (if t205 = true then ((treelabel_Common.f k t194 3 2).bind fun t206 => (some (t206 == 0))) else (some false))) else (none)) = some r := by rw [if_pos rfl] at H; exact H
        clear H
        have H := H1
        clear H1
        by_cases c10 : 2 < (t194.length : Int)
        ·rw [if_pos c10] at H
         have c10b0 : decide (2 < (t194.length : Int)) = true := decide_eq_true c10
         have c10b1 : decide (2 < t194.length) = true := decide_eq_true (by omega)
         clear c10
         replace H := Option.bind_eq_some_iff.mp H
         obtain ⟨t205, A110, H⟩ := H
         replace H : (if t205 = true then ((treelabel_Common.f k t194 3 2).bind fun t206 => (some (t206 == 0))) else (some false)) = some r := H
         have A11 := Aside0.mk A110
         clear A110
         by_cases c12 : t205 = true
         ·subst c12
          have H1 : ((treelabel_Common.f k t194 3 2).bind fun t206 => (some (t206 == 0))) = some r := by rw [if_pos rfl] at H; exact H
          clear H
          have H := H1
          clear H1
          replace H := Option.bind_eq_some_iff.mp H
          obtain ⟨t206, A130, H⟩ := H
          replace H : (some (t206 == 0)) = some r := H
          have A13 := Aside0.mk A130
          clear A130
          obtain rfl := Option.some.inj H
          go_enter Try.func14, Try.ntmps14
          try go_wp2_with (first | ((with_reducible refine gate_dst (N := 5) rfl ?_); (try (refine gate_guard (by rfl) ?_; dsimp only)); refine Kd.R_lit (Kd.int .i64) _ 3 ?hg (N := 5) ?hd (xs := ([(-1), 0, 0, 1] : List Int)) (inner := [.int .i64 (-1), .int .i64 0, .int .i64 0, .int .i64 1]) (ok := fun _ => True) (okp := fun _ => True) ?hr ?hp (fun _ hk => hk) trivial (Below.refl _ _) (Nat.le_refl _) (by simp) ?_; (case hd => rfl); (case hg => rfl); (case hr => first | (go_simp; done) | (go_simp; rfl)); (case hp => exact (Reps.one (show Kd.M (Kd.int .i64) _ _ _ (-1) [.int .i64 (-1)] from rfl) (Reps.one (show Kd.M (Kd.int .i64) _ _ _ 0 [.int .i64 0] from rfl) (Reps.one (show Kd.M (Kd.int .i64) _ _ _ 0 [.int .i64 0] from rfl) (Reps.one (show Kd.M (Kd.int .i64) _ _ _ 1 [.int .i64 1] from rfl) (Reps.none _ _)))))); intro v192 w14 ho15 hb hg_ hnew_; clear hg_ hnew_; (first | rw [← Ny191.out] at ho15 | (simp only [Int.reduceToNat] at ho15; rw [← Ny191.out] at ho15)); have n0_ := Aside0.mk (Kd.R_lower ho15 (below_size (by repeat (first | (with_reducible first | exact HB.out | apply below_alloc | apply pw_below_drewN | apply below_drew1) | exact HB.out)))); have n1_ := Aside0.mk (below_step (by repeat (first | (with_reducible first | exact HB.out | apply below_alloc | apply pw_below_drewN | apply below_drew1) | exact HB.out)) hb); clear HB; have HO193 := n0_; have HB := n1_; clear n0_ n1_; clear hb ho15; obtain ⟨Ao16, co16, eo16⟩ := Kd.R_slice HO193.out; subst eo16) | ((with_reducible refine gate_callee (f := 11) rfl ?_); refine goesL_ (some 6) rfl rfl Try.func11 (by kernel_rfl) rfl #[.slice Ao16 y191.length co16] rfl (by (try simp only [List.map_toArray, List.map_cons, List.map_nil]); first | done | rfl | (simp only [List.length_drop, List.length_take]; rfl)) ?_; (with_reducible refine (treelabel_Assign.calls k _ _ y191 t194 t195 t196 _ ?side1 ?side2 A1.out).mono ?_); (case side1 => repeat (first | exact (Kd.R_reads' HO193.out).2.2 | (with_reducible refine Kd.C_alloc ?_ _) | (with_reducible refine Kd.C_drewN ?_ _) | (with_reducible refine Kd.C_drew ?_))); (case side2 => exact (Kd.R_reads' HO193.out).2.1); rintro e w17 ⟨v197, rfl, ho0, hb⟩; refine ⟨_, rfl, ?_⟩; have n0_ := Aside0.mk (Kd.R_below (by (with_reducible repeat (first | apply Kd.R_alloc | apply Kd.R_drewN | apply Kd.R_drew)); exact HO193.out) hb); have n1_ := Aside0.mk (Kd.R_lower ho0 (below_size (by repeat (first | (with_reducible first | exact HB.out | apply below_alloc | apply pw_below_drewN | apply below_drew1) | exact HB.out)))); have n2_ := Aside0.mk (below_step (by repeat (first | (with_reducible first | exact HB.out | apply below_alloc | apply pw_below_drewN | apply below_drew1) | exact HB.out)) hb); clear HO193; clear HB; have HO193 := n0_; have HO198 := n1_; have HB := n2_; clear n0_ n1_ n2_; (try clear hb); (try clear hb2); (try clear hk); (try clear hi); (try clear ho0)))
          have n0_ := Aside0.mk (Kd.R_drew HO193.out)
          have n1_ := Aside0.mk (Kd.R_drew HO198.out)
          have n2_ := Aside0.mk (below_drew1 HB.out)
          clear HO193
          clear HO198
          clear HB
          have HO193 := n0_
          have HO198 := n1_
          have HB := n2_
          clear n0_ n1_ n2_
          obtain ⟨Ao19, co19, eo19⟩ := Kd.R_slice HO198.out
          (first | subst eo19 | (injection eo19 with f1_ f2_ f3_; have f4_ := f1_.symm; have f5_ := f3_.symm; clear f1_ f2_ f3_; subst f4_; subst f5_))
          have p199 : 0 ≤ (1 : Int) := (by omega)
          have q199 : 1 < (t194.length : Int) := of_decide_eq_true (by first | (with_reducible assumption) | assumption)
          obtain ⟨ad199, e199, hx199_0, hx199_1, hx199_2⟩ := at_T41 (Kd.R_reads' HO198.out).2.2 1 p199 q199
          cases e199
          (try simp only [show (1 : Int).toNat = 1 from rfl, Nat.reduceMul, Nat.reduceEqDiff, Go.Addr.add, ↓reduceIte] at hx199_0)
          (try simp only [show (1 : Int).toNat = 1 from rfl, Nat.reduceMul, Nat.reduceEqDiff, Go.Addr.add, ↓reduceIte] at hx199_1)
          (try simp only [show (1 : Int).toNat = 1 from rfl, Nat.reduceMul, Nat.reduceEqDiff, Go.Addr.add, ↓reduceIte] at hx199_2)
          have qi199 : (1 < t194.length) = True := eq_true (by omega)
          (try rw [show ((1 : Int)).toNat = 1 from rfl] at hx199_0)
          (try rw [show 1 * 3 = 3 from rfl] at hx199_0)
          (try rw [show ((1 : Int)).toNat = 1 from rfl] at hx199_1)
          (try rw [show 1 * 3 = 3 from rfl] at hx199_1)
          (try rw [show ((1 : Int)).toNat = 1 from rfl] at hx199_2)
          (try rw [show 1 * 3 = 3 from rfl] at hx199_2)
          replace p199 := eq_true p199
          replace q199 := eq_true q199
          have p200 : 0 ≤ (1 : Int) := (by omega)
          have q200 : 1 < (t194.length : Int) := of_decide_eq_true (by first | (with_reducible assumption) | assumption)
          obtain ⟨ad200, e200, hx200_0, hx200_1, hx200_2⟩ := at_T41 (Kd.R_reads' HO198.out).2.2 1 p200 q200
          obtain rfl : ad199 = ad200 := (by injection e200)
          (try simp only [show (1 : Int).toNat = 1 from rfl, Nat.reduceMul, Nat.reduceEqDiff, Go.Addr.add, ↓reduceIte] at hx200_0)
          (try simp only [show (1 : Int).toNat = 1 from rfl, Nat.reduceMul, Nat.reduceEqDiff, Go.Addr.add, ↓reduceIte] at hx200_1)
          (try simp only [show (1 : Int).toNat = 1 from rfl, Nat.reduceMul, Nat.reduceEqDiff, Go.Addr.add, ↓reduceIte] at hx200_2)
          have qi200 : (1 < t194.length) = True := eq_true (by omega)
          (try rw [show ((1 : Int)).toNat = 1 from rfl] at hx200_0)
          (try rw [show 1 * 3 = 3 from rfl] at hx200_0)
          (try rw [show ((1 : Int)).toNat = 1 from rfl] at hx200_1)
          (try rw [show 1 * 3 = 3 from rfl] at hx200_1)
          (try rw [show ((1 : Int)).toNat = 1 from rfl] at hx200_2)
          (try rw [show 1 * 3 = 3 from rfl] at hx200_2)
          replace p200 := eq_true p200
          replace q200 := eq_true q200
          have p201 : 0 ≤ (3 : Int) := (by omega)
          have q201 : 3 < (t194.length : Int) := of_decide_eq_true (by first | (with_reducible assumption) | assumption)
          obtain ⟨ad201, e201, hx201_0, hx201_1, hx201_2⟩ := at_T41 (Kd.R_reads' HO198.out).2.2 3 p201 q201
          obtain rfl : ad199 = ad201 := (by injection e201)
          (try simp only [show (3 : Int).toNat = 3 from rfl, Nat.reduceMul, Nat.reduceEqDiff, Go.Addr.add, ↓reduceIte] at hx201_0)
          (try simp only [show (3 : Int).toNat = 3 from rfl, Nat.reduceMul, Nat.reduceEqDiff, Go.Addr.add, ↓reduceIte] at hx201_1)
          (try simp only [show (3 : Int).toNat = 3 from rfl, Nat.reduceMul, Nat.reduceEqDiff, Go.Addr.add, ↓reduceIte] at hx201_2)
          have qi201 : (3 < t194.length) = True := eq_true (by omega)
          (try rw [show ((3 : Int)).toNat = 3 from rfl] at hx201_0)
          (try rw [show 3 * 3 = 9 from rfl] at hx201_0)
          (try rw [show ((3 : Int)).toNat = 3 from rfl] at hx201_1)
          (try rw [show 3 * 3 = 9 from rfl] at hx201_1)
          (try rw [show ((3 : Int)).toNat = 3 from rfl] at hx201_2)
          (try rw [show 3 * 3 = 9 from rfl] at hx201_2)
          replace p201 := eq_true p201
          replace q201 := eq_true q201
          have p203 : 0 ≤ (1 : Int) := (by omega)
          have q203 : 1 < (t194.length : Int) := of_decide_eq_true (by first | (with_reducible assumption) | assumption)
          obtain ⟨ad203, e203, hx203_0, hx203_1, hx203_2⟩ := at_T41 (Kd.R_reads' HO198.out).2.2 1 p203 q203
          obtain rfl : ad199 = ad203 := (by injection e203)
          (try simp only [show (1 : Int).toNat = 1 from rfl, Nat.reduceMul, Nat.reduceEqDiff, Go.Addr.add, ↓reduceIte] at hx203_0)
          (try simp only [show (1 : Int).toNat = 1 from rfl, Nat.reduceMul, Nat.reduceEqDiff, Go.Addr.add, ↓reduceIte] at hx203_1)
          (try simp only [show (1 : Int).toNat = 1 from rfl, Nat.reduceMul, Nat.reduceEqDiff, Go.Addr.add, ↓reduceIte] at hx203_2)
          have qi203 : (1 < t194.length) = True := eq_true (by omega)
          (try rw [show ((1 : Int)).toNat = 1 from rfl] at hx203_0)
          (try rw [show 1 * 3 = 3 from rfl] at hx203_0)
          (try rw [show ((1 : Int)).toNat = 1 from rfl] at hx203_1)
          (try rw [show 1 * 3 = 3 from rfl] at hx203_1)
          (try rw [show ((1 : Int)).toNat = 1 from rfl] at hx203_2)
          (try rw [show 1 * 3 = 3 from rfl] at hx203_2)
          replace p203 := eq_true p203
          replace q203 := eq_true q203
          have p204 : 0 ≤ (2 : Int) := (by omega)
          have q204 : 2 < (t194.length : Int) := of_decide_eq_true (by first | (with_reducible assumption) | assumption)
          obtain ⟨ad204, e204, hx204_0, hx204_1, hx204_2⟩ := at_T41 (Kd.R_reads' HO198.out).2.2 2 p204 q204
          obtain rfl : ad199 = ad204 := (by injection e204)
          (try simp only [show (2 : Int).toNat = 2 from rfl, Nat.reduceMul, Nat.reduceEqDiff, Go.Addr.add, ↓reduceIte] at hx204_0)
          (try simp only [show (2 : Int).toNat = 2 from rfl, Nat.reduceMul, Nat.reduceEqDiff, Go.Addr.add, ↓reduceIte] at hx204_1)
          (try simp only [show (2 : Int).toNat = 2 from rfl, Nat.reduceMul, Nat.reduceEqDiff, Go.Addr.add, ↓reduceIte] at hx204_2)
          have qi204 : (2 < t194.length) = True := eq_true (by omega)
          (try rw [show ((2 : Int)).toNat = 2 from rfl] at hx204_0)
          (try rw [show 2 * 3 = 6 from rfl] at hx204_0)
          (try rw [show ((2 : Int)).toNat = 2 from rfl] at hx204_1)
          (try rw [show 2 * 3 = 6 from rfl] at hx204_1)
          (try rw [show ((2 : Int)).toNat = 2 from rfl] at hx204_2)
          (try rw [show 2 * 3 = 6 from rfl] at hx204_2)
          replace p204 := eq_true p204
          replace q204 := eq_true q204
          refine start_ (n := 42) (S := fun w' => w'.cell? ⟨ad199.block, ad199.off + 3, none⟩ = some (.int .i64 ((rd_T41 t194 1).f0)) ∧ w'.cell? ⟨ad199.block, ad199.off + 3 + 1, none⟩ = some (.int .i64 ((rd_T41 t194 1).f1)) ∧ w'.cell? ⟨ad199.block, ad199.off + 3 + 2, none⟩ = some (.int .i64 ((rd_T41 t194 1).f2)) ∧ w'.cell? ⟨ad199.block, ad199.off + 3, none⟩ = some (.int .i64 ((rd_T41 t194 1).f0)) ∧ w'.cell? ⟨ad199.block, ad199.off + 3 + 1, none⟩ = some (.int .i64 ((rd_T41 t194 1).f1)) ∧ w'.cell? ⟨ad199.block, ad199.off + 3 + 2, none⟩ = some (.int .i64 ((rd_T41 t194 1).f2)) ∧ w'.cell? ⟨ad199.block, ad199.off + 9, none⟩ = some (.int .i64 ((rd_T41 t194 3).f0)) ∧ w'.cell? ⟨ad199.block, ad199.off + 9 + 1, none⟩ = some (.int .i64 ((rd_T41 t194 3).f1)) ∧ w'.cell? ⟨ad199.block, ad199.off + 9 + 2, none⟩ = some (.int .i64 ((rd_T41 t194 3).f2)) ∧ w'.cell? ⟨ad199.block, ad199.off + 3, none⟩ = some (.int .i64 ((rd_T41 t194 1).f0)) ∧ w'.cell? ⟨ad199.block, ad199.off + 3 + 1, none⟩ = some (.int .i64 ((rd_T41 t194 1).f1)) ∧ w'.cell? ⟨ad199.block, ad199.off + 3 + 2, none⟩ = some (.int .i64 ((rd_T41 t194 1).f2)) ∧ w'.cell? ⟨ad199.block, ad199.off + 6, none⟩ = some (.int .i64 ((rd_T41 t194 2).f0)) ∧ w'.cell? ⟨ad199.block, ad199.off + 6 + 1, none⟩ = some (.int .i64 ((rd_T41 t194 2).f1)) ∧ w'.cell? ⟨ad199.block, ad199.off + 6 + 2, none⟩ = some (.int .i64 ((rd_T41 t194 2).f2))) (ds := []) #[false, false, false, false, false, false, false, false, false, false, false, false, false, false, false, false, false, false, false, false, false, false, false, false, false, false, false, false, false, false, false, false, false, false, false, false, false, false, false, false, false, false] (by kernel_rfl) rfl rfl ⟨hx199_0, hx199_1, hx199_2, hx200_0, hx200_1, hx200_2, hx201_0, hx201_1, hx201_2, hx203_0, hx203_1, hx203_2, hx204_0, hx204_1, hx204_2⟩ (fun hHeld => ?_); refine with_tabW corporalaw10_awake.tab2 corporalaw10_awake.bits2 (fun HT_ HW_ => ?_)
          generalize w17.drew = w18 at HO193 HO198 HB hx199_0 hx199_1 hx199_2 hx200_0 hx200_1 hx200_2 hx201_0 hx201_1 hx201_2 hx203_0 hx203_1 hx203_2 hx204_0 hx204_1 hx204_2 hHeld ⊢
          refine pure_ (i := 0) (N := some 10) (v := ?_) (a' := ?_) #[true, false, false, false, false, false, false, false, false, false, false, false, false, false, false, false, false, false, false, false, false, false, false, false, false, false, false, false, false, false, false, false, false, false, false, false, false, false, false, false, false, false] rfl rfl (any_of HT_.out (by kernel_rfl)) (fun _ _ _ h => h) (Or.inl ⟨by rfl, ?_⟩) ?_ ?_
          rotate_left
          ·intro w'
           go_simp
           with_reducible rfl
          rotate_left
          ·simp only [Act.put, List.setIfInBounds_toArray, List.set_cons_zero, List.set_cons_succ, i64_w, i32_w]
           rfl
          refine pure_ (i := 1) (N := some 11) (v := ?_) (a' := ?_) #[true, true, false, false, false, false, false, false, false, false, false, false, false, false, false, false, false, false, false, false, false, false, false, false, false, false, false, false, false, false, false, false, false, false, false, false, false, false, false, false, false, false] rfl rfl (any_of HT_.out (by kernel_rfl)) (fun _ _ _ h => h) (Or.inl ⟨by rfl, ?_⟩) ?_ ?_
          rotate_left
          ·intro w'
           go_simp
           with_reducible rfl
          rotate_left
          ·simp only [Act.put, List.setIfInBounds_toArray, List.set_cons_zero, List.set_cons_succ, i64_w, i32_w]
           rfl
          refine pure_ (i := 2) (N := some 12) (v := ?_) (a' := ?_) #[true, true, true, false, false, false, false, false, false, false, false, false, false, false, false, false, false, false, false, false, false, false, false, false, false, false, false, false, false, false, false, false, false, false, false, false, false, false, false, false, false, false] rfl rfl (any_of HT_.out (by kernel_rfl)) (fun _ _ _ h => h) (Or.inl ⟨by rfl, ?_⟩) ?_ ?_
          rotate_left
          ·intro w'
           go_simp
           with_reducible rfl
          rotate_left
          ·simp only [Act.put, List.setIfInBounds_toArray, List.set_cons_zero, List.set_cons_succ, i64_w, i32_w]
           rfl
          refine pure_ (i := 3) (N := some 13) (v := ?_) (a' := ?_) #[true, true, true, true, false, false, false, false, false, false, false, false, false, false, false, false, false, false, false, false, false, false, false, false, false, false, false, false, false, false, false, false, false, false, false, false, false, false, false, false, false, false] rfl rfl (any_of HT_.out (by kernel_rfl)) (fun _ _ _ h => h) (Or.inl ⟨by rfl, ?_⟩) ?_ ?_
          rotate_left
          ·intro w'
           go_simp
           with_reducible rfl
          rotate_left
          ·simp only [Act.put, List.setIfInBounds_toArray, List.set_cons_zero, List.set_cons_succ, i64_w, i32_w]
           rfl
          refine pure_ (i := 4) (N := some 14) (v := ?_) (a' := ?_) #[true, true, true, true, true, false, false, false, false, false, false, false, false, false, false, false, false, false, false, false, false, false, false, false, false, false, false, false, false, false, false, false, false, false, false, false, false, false, false, false, false, false] rfl rfl (any_of HT_.out (by kernel_rfl)) (fun _ _ _ h => h) (Or.inl ⟨by rfl, ?_⟩) ?_ ?_
          rotate_left
          ·intro w'
           go_simp
           with_reducible rfl
          rotate_left
          ·simp only [Act.put, List.setIfInBounds_toArray, List.set_cons_zero, List.set_cons_succ, i64_w, i32_w]
           rfl
          refine pure_ (i := 5) (N := some 15) (v := ?_) (a' := ?_) #[true, true, true, true, true, true, false, false, false, false, false, false, false, false, false, false, false, false, false, false, false, false, false, false, false, false, false, false, false, false, false, false, false, false, false, false, false, false, false, false, false, false] rfl rfl (any_of HT_.out (by kernel_rfl)) (fun _ _ _ h => h) (Or.inl ⟨by rfl, ?_⟩) ?_ ?_
          rotate_left
          ·intro w'
           go_simp
           with_reducible rfl
          rotate_left
          ·simp only [Act.put, List.setIfInBounds_toArray, List.set_cons_zero, List.set_cons_succ, i64_w, i32_w]
           rfl
          refine pure_ (i := 6) (N := some 16) (v := ?_) (a' := ?_) #[true, true, true, true, true, true, true, false, false, false, false, false, false, false, false, false, false, false, false, false, false, false, false, false, false, false, false, false, false, false, false, false, false, false, false, false, false, false, false, false, false, false] rfl rfl (any_of HT_.out (by kernel_rfl)) (fun _ _ _ h => h) (Or.inl ⟨by rfl, ?_⟩) ?_ ?_
          rotate_left
          ·intro w'
           go_simp
           with_reducible rfl
          rotate_left
          ·simp only [Act.put, List.setIfInBounds_toArray, List.set_cons_zero, List.set_cons_succ, i64_w, i32_w]
           rfl
          refine pure_ (i := 7) (N := some 17) (v := ?_) (a' := ?_) #[true, true, true, true, true, true, true, true, false, false, false, false, false, false, false, false, false, false, false, false, false, false, false, false, false, false, false, false, false, false, false, false, false, false, false, false, false, false, false, false, false, false] rfl rfl (any_of HT_.out (by kernel_rfl)) (fun _ _ _ h => h) (Or.inl ⟨by rfl, ?_⟩) ?_ ?_
          rotate_left
          ·intro w'
           go_simp
           with_reducible rfl
          rotate_left
          ·simp only [Act.put, List.setIfInBounds_toArray, List.set_cons_zero, List.set_cons_succ, i64_w, i32_w]
           rfl
          refine pure_ (i := 8) (N := some 18) (v := ?_) (a' := ?_) #[true, true, true, true, true, true, true, true, true, false, false, false, false, false, false, false, false, false, false, false, false, false, false, false, false, false, false, false, false, false, false, false, false, false, false, false, false, false, false, false, false, false] rfl rfl (any_of HT_.out (by kernel_rfl)) (fun _ _ _ h => h) (Or.inl ⟨by rfl, ?_⟩) ?_ ?_
          rotate_left
          ·intro w'
           go_simp
           with_reducible rfl
          rotate_left
          ·simp only [Act.put, List.setIfInBounds_toArray, List.set_cons_zero, List.set_cons_succ, i64_w, i32_w]
           rfl
          refine pure_ (i := 9) (N := some 19) (v := ?_) (a' := ?_) #[true, true, true, true, true, true, true, true, true, true, false, false, false, false, false, false, false, false, false, false, false, false, false, false, false, false, false, false, false, false, false, false, false, false, false, false, false, false, false, false, false, false] rfl rfl (any_of HT_.out (by kernel_rfl)) (fun _ _ _ h => h) (Or.inl ⟨by rfl, ?_⟩) ?_ ?_
          rotate_left
          ·intro w'
           go_simp
           with_reducible rfl
          rotate_left
          ·simp only [Act.put, List.setIfInBounds_toArray, List.set_cons_zero, List.set_cons_succ, i64_w, i32_w]
           rfl
          refine pure_ (i := 10) (N := some 20) (v := ?_) (a' := ?_) #[true, true, true, true, true, true, true, true, true, true, true, false, false, false, false, false, false, false, false, false, false, false, false, false, false, false, false, false, false, false, false, false, false, false, false, false, false, false, false, false, false, false] rfl rfl (any_of HT_.out (by kernel_rfl)) (fun _ _ _ h => h) (Or.inl ⟨by rfl, ?_⟩) ?_ ?_
          rotate_left
          ·intro w'
           go_simp
           with_reducible rfl
          rotate_left
          ·simp only [Act.put, List.setIfInBounds_toArray, List.set_cons_zero, List.set_cons_succ, i64_w, i32_w]
           rfl
          refine pure_ (i := 11) (N := some 21) (v := ?_) (a' := ?_) #[true, true, true, true, true, true, true, true, true, true, true, true, false, false, false, false, false, false, false, false, false, false, false, false, false, false, false, false, false, false, false, false, false, false, false, false, false, false, false, false, false, false] rfl rfl (any_of HT_.out (by kernel_rfl)) (fun _ _ _ h => h) (Or.inl ⟨by rfl, ?_⟩) ?_ ?_
          rotate_left
          ·intro w'
           go_simp
           with_reducible rfl
          rotate_left
          ·simp only [Act.put, List.setIfInBounds_toArray, List.set_cons_zero, List.set_cons_succ, i64_w, i32_w]
           rfl
          refine pure_ (i := 12) (N := some 22) (v := ?_) (a' := ?_) #[true, true, true, true, true, true, true, true, true, true, true, true, true, false, false, false, false, false, false, false, false, false, false, false, false, false, false, false, false, false, false, false, false, false, false, false, false, false, false, false, false, false] rfl rfl (any_of HT_.out (by kernel_rfl)) (fun _ _ _ h => h) (Or.inl ⟨by rfl, ?_⟩) ?_ ?_
          rotate_left
          ·intro w'
           go_simp
           with_reducible rfl
          rotate_left
          ·simp only [Act.put, List.setIfInBounds_toArray, List.set_cons_zero, List.set_cons_succ, i64_w, i32_w]
           rfl
          refine pure_ (i := 13) (N := some 23) (v := ?_) (a' := ?_) #[true, true, true, true, true, true, true, true, true, true, true, true, true, true, false, false, false, false, false, false, false, false, false, false, false, false, false, false, false, false, false, false, false, false, false, false, false, false, false, false, false, false] rfl rfl (any_of HT_.out (by kernel_rfl)) (fun _ _ _ h => h) (Or.inl ⟨by rfl, ?_⟩) ?_ ?_
          rotate_left
          ·intro w'
           go_simp
           with_reducible rfl
          rotate_left
          ·simp only [Act.put, List.setIfInBounds_toArray, List.set_cons_zero, List.set_cons_succ, i64_w, i32_w]
           rfl
          refine pure_ (i := 15) (N := some 25) (v := ?_) (a' := ?_) #[true, true, true, true, true, true, true, true, true, true, true, true, true, true, false, true, false, false, false, false, false, false, false, false, false, false, false, false, false, false, false, false, false, false, false, false, false, false, false, false, false, false] rfl rfl (any_of HT_.out (by kernel_rfl)) (fun _ _ _ h => h) (Or.inl ⟨by rfl, ?_⟩) ?_ ?_
          rotate_left
          ·intro w'
           go_simp
           with_reducible rfl
          rotate_left
          ·simp only [Act.put, List.setIfInBounds_toArray, List.set_cons_zero, List.set_cons_succ, i64_w, i32_w]
           rfl
          refine take_ (i := 14) (N := some 24) (v := ?_) (a' := ?_) #[true, true, true, true, true, true, true, true, true, true, true, true, true, true, true, true, false, false, false, false, false, false, false, false, false, false, false, false, false, false, false, false, false, false, false, false, false, false, false, false, false, false] rfl rfl (take_ofW HT_.out HW_.out (by kernel_rfl)) (fun _ _ _ h => h) (Or.inl ⟨by rfl, ?_⟩) hHeld ?_ ?_
          rotate_left
          ·rintro w' ⟨s0, s1, s2, s3, s4, s5, s6, s7, s8, s9, s10, s11, s12, s13, s14⟩
           go_simp
           with_reducible rfl
          rotate_left
          ·simp only [Act.put, List.setIfInBounds_toArray, List.set_cons_zero, List.set_cons_succ, i64_w, i32_w]
           rfl
          refine pure_ (i := 16) (N := some 26) (v := ?_) (a' := ?_) #[true, true, true, true, true, true, true, true, true, true, true, true, true, true, true, true, true, false, false, false, false, false, false, false, false, false, false, false, false, false, false, false, false, false, false, false, false, false, false, false, false, false] rfl rfl (any_of HT_.out (by kernel_rfl)) (fun _ _ _ h => h) (Or.inl ⟨by rfl, ?_⟩) ?_ ?_
          rotate_left
          ·intro w'
           go_simp
           with_reducible rfl
          rotate_left
          ·simp only [Act.put, List.setIfInBounds_toArray, List.set_cons_zero, List.set_cons_succ, i64_w, i32_w]
           rfl
          refine pure_ (i := 17) (N := some 27) (v := ?_) (a' := ?_) #[true, true, true, true, true, true, true, true, true, true, true, true, true, true, true, true, true, true, false, false, false, false, false, false, false, false, false, false, false, false, false, false, false, false, false, false, false, false, false, false, false, false] rfl rfl (any_of HT_.out (by kernel_rfl)) (fun _ _ _ h => h) (Or.inl ⟨by rfl, ?_⟩) ?_ ?_
          rotate_left
          ·intro w'
           go_simp
           with_reducible rfl
          rotate_left
          ·simp only [Act.put, List.setIfInBounds_toArray, List.set_cons_zero, List.set_cons_succ, i64_w, i32_w]
           rfl
          refine pure_ (i := 18) (N := some 28) (v := ?_) (a' := ?_) #[true, true, true, true, true, true, true, true, true, true, true, true, true, true, true, true, true, true, true, false, false, false, false, false, false, false, false, false, false, false, false, false, false, false, false, false, false, false, false, false, false, false] rfl rfl (any_of HT_.out (by kernel_rfl)) (fun _ _ _ h => h) (Or.inl ⟨by rfl, ?_⟩) ?_ ?_
          rotate_left
          ·intro w'
           go_simp
           with_reducible rfl
          rotate_left
          ·simp only [Act.put, List.setIfInBounds_toArray, List.set_cons_zero, List.set_cons_succ, i64_w, i32_w]
           rfl
          refine pure_ (i := 19) (N := some 29) (v := ?_) (a' := ?_) #[true, true, true, true, true, true, true, true, true, true, true, true, true, true, true, true, true, true, true, true, false, false, false, false, false, false, false, false, false, false, false, false, false, false, false, false, false, false, false, false, false, false] rfl rfl (any_of HT_.out (by kernel_rfl)) (fun _ _ _ h => h) (Or.inl ⟨by rfl, ?_⟩) ?_ ?_
          rotate_left
          ·intro w'
           go_simp
           with_reducible rfl
          rotate_left
          ·simp only [Act.put, List.setIfInBounds_toArray, List.set_cons_zero, List.set_cons_succ, i64_w, i32_w]
           rfl
          refine pure_ (i := 20) (N := some 30) (v := ?_) (a' := ?_) #[true, true, true, true, true, true, true, true, true, true, true, true, true, true, true, true, true, true, true, true, true, false, false, false, false, false, false, false, false, false, false, false, false, false, false, false, false, false, false, false, false, false] rfl rfl (any_of HT_.out (by kernel_rfl)) (fun _ _ _ h => h) (Or.inl ⟨by rfl, ?_⟩) ?_ ?_
          rotate_left
          ·intro w'
           go_simp
           with_reducible rfl
          rotate_left
          ·simp only [Act.put, List.setIfInBounds_toArray, List.set_cons_zero, List.set_cons_succ, i64_w, i32_w]
           rfl
          refine pure_ (i := 22) (N := some 32) (v := ?_) (a' := ?_) #[true, true, true, true, true, true, true, true, true, true, true, true, true, true, true, true, true, true, true, true, true, false, true, false, false, false, false, false, false, false, false, false, false, false, false, false, false, false, false, false, false, false] rfl rfl (any_of HT_.out (by kernel_rfl)) (fun _ _ _ h => h) (Or.inl ⟨by rfl, ?_⟩) ?_ ?_
          rotate_left
          ·intro w'
           go_simp
           with_reducible rfl
          rotate_left
          ·simp only [Act.put, List.setIfInBounds_toArray, List.set_cons_zero, List.set_cons_succ, i64_w, i32_w]
           rfl
          refine pure_ (i := 23) (N := some 33) (v := ?_) (a' := ?_) #[true, true, true, true, true, true, true, true, true, true, true, true, true, true, true, true, true, true, true, true, true, false, true, true, false, false, false, false, false, false, false, false, false, false, false, false, false, false, false, false, false, false] rfl rfl (any_of HT_.out (by kernel_rfl)) (fun _ _ _ h => h) (Or.inl ⟨by rfl, ?_⟩) ?_ ?_
          rotate_left
          ·intro w'
           go_simp
           with_reducible rfl
          rotate_left
          ·simp only [Act.put, List.setIfInBounds_toArray, List.set_cons_zero, List.set_cons_succ, i64_w, i32_w]
           rfl
          refine take_ (i := 21) (N := some 31) (v := ?_) (a' := ?_) #[true, true, true, true, true, true, true, true, true, true, true, true, true, true, true, true, true, true, true, true, true, true, true, true, false, false, false, false, false, false, false, false, false, false, false, false, false, false, false, false, false, false] rfl rfl (take_ofW HT_.out HW_.out (by kernel_rfl)) (fun _ _ _ h => h) (Or.inl ⟨by rfl, ?_⟩) hHeld ?_ ?_
          rotate_left
          ·rintro w' ⟨s0, s1, s2, s3, s4, s5, s6, s7, s8, s9, s10, s11, s12, s13, s14⟩
           go_simp
           with_reducible rfl
          rotate_left
          ·simp only [Act.put, List.setIfInBounds_toArray, List.set_cons_zero, List.set_cons_succ, i64_w, i32_w]
           rfl
          refine take_ (i := 24) (N := some 34) (v := ?_) (a' := ?_) #[true, true, true, true, true, true, true, true, true, true, true, true, true, true, true, true, true, true, true, true, true, true, true, true, true, false, false, false, false, false, false, false, false, false, false, false, false, false, false, false, false, false] rfl rfl (take_ofW HT_.out HW_.out (by kernel_rfl)) (fun _ _ _ h => h) (Or.inl ⟨by rfl, ?_⟩) hHeld ?_ ?_
          rotate_left
          ·rintro w' ⟨s0, s1, s2, s3, s4, s5, s6, s7, s8, s9, s10, s11, s12, s13, s14⟩
           go_simp
           with_reducible rfl
          rotate_left
          ·simp only [Act.put, List.setIfInBounds_toArray, List.set_cons_zero, List.set_cons_succ, i64_w, i32_w]
           rfl
          refine one_ (i := 25) (N := some 35) #[true, true, true, true, true, true, true, true, true, true, true, true, true, true, true, true, true, true, true, true, true, true, true, true, true, true, false, false, false, false, false, false, false, false, false, false, false, false, false, false, false, false] rfl rfl (one_of HT_.out (by kernel_rfl)) (by decide) (fun K hK => ?_)
          refine goes_ Try.func20 (by kernel_rfl) rfl #[.agg #[.int .i64 ((rd_T41 t194 1).f0), .int .i64 ((rd_T41 t194 1).f1), .int .i64 ((rd_T41 t194 1).f2)], .agg #[.int .i64 ((rd_T41 t194 3).f0), .int .i64 ((rd_T41 t194 3).f1), .int .i64 ((rd_T41 t194 3).f2)]] (by rfl) rfl rfl (by (try simp only [List.map_toArray, List.map_cons, List.map_nil]); first | done | rfl | (simp only [List.length_drop, List.length_take]; rfl)) ?_
          with_reducible refine (treelabel_Dominates.calls ((rd_T41 t194 1).f0) ((rd_T41 t194 1).f1) ((rd_T41 t194 1).f2) ((rd_T41 t194 3).f0) ((rd_T41 t194 3).f1) ((rd_T41 t194 3).f2) true _ A8.out).mono ?_
          rintro e w20 ⟨rfl, hb⟩
          have HS0_ := (hb.cell (World.block_lt_of_cell? _ _ (hHeld.1))).trans (hHeld.1)
          have HS1_ := (hb.cell (World.block_lt_of_cell? _ _ (hHeld.2.1))).trans (hHeld.2.1)
          have HS2_ := (hb.cell (World.block_lt_of_cell? _ _ (hHeld.2.2.1))).trans (hHeld.2.2.1)
          have HS3_ := (hb.cell (World.block_lt_of_cell? _ _ (hHeld.2.2.2.1))).trans (hHeld.2.2.2.1)
          have HS4_ := (hb.cell (World.block_lt_of_cell? _ _ (hHeld.2.2.2.2.1))).trans (hHeld.2.2.2.2.1)
          have HS5_ := (hb.cell (World.block_lt_of_cell? _ _ (hHeld.2.2.2.2.2.1))).trans (hHeld.2.2.2.2.2.1)
          have HS6_ := (hb.cell (World.block_lt_of_cell? _ _ (hHeld.2.2.2.2.2.2.1))).trans (hHeld.2.2.2.2.2.2.1)
          have HS7_ := (hb.cell (World.block_lt_of_cell? _ _ (hHeld.2.2.2.2.2.2.2.1))).trans (hHeld.2.2.2.2.2.2.2.1)
          have HS8_ := (hb.cell (World.block_lt_of_cell? _ _ (hHeld.2.2.2.2.2.2.2.2.1))).trans (hHeld.2.2.2.2.2.2.2.2.1)
          have HS9_ := (hb.cell (World.block_lt_of_cell? _ _ (hHeld.2.2.2.2.2.2.2.2.2.1))).trans (hHeld.2.2.2.2.2.2.2.2.2.1)
          have HS10_ := (hb.cell (World.block_lt_of_cell? _ _ (hHeld.2.2.2.2.2.2.2.2.2.2.1))).trans (hHeld.2.2.2.2.2.2.2.2.2.2.1)
          have HS11_ := (hb.cell (World.block_lt_of_cell? _ _ (hHeld.2.2.2.2.2.2.2.2.2.2.2.1))).trans (hHeld.2.2.2.2.2.2.2.2.2.2.2.1)
          have HS12_ := (hb.cell (World.block_lt_of_cell? _ _ (hHeld.2.2.2.2.2.2.2.2.2.2.2.2.1))).trans (hHeld.2.2.2.2.2.2.2.2.2.2.2.2.1)
          have HS13_ := (hb.cell (World.block_lt_of_cell? _ _ (hHeld.2.2.2.2.2.2.2.2.2.2.2.2.2.1))).trans (hHeld.2.2.2.2.2.2.2.2.2.2.2.2.2.1)
          have HS14_ := (hb.cell (World.block_lt_of_cell? _ _ (hHeld.2.2.2.2.2.2.2.2.2.2.2.2.2.2))).trans (hHeld.2.2.2.2.2.2.2.2.2.2.2.2.2.2)
          refine ⟨_, rfl, ?_⟩
          have n0_ := Aside0.mk (Kd.R_below (by (with_reducible repeat (first | apply Kd.R_alloc | apply Kd.R_drewN | apply Kd.R_drew)); exact HO193.out) hb)
          have n1_ := Aside0.mk (Kd.R_below (by (with_reducible repeat (first | apply Kd.R_alloc | apply Kd.R_drewN | apply Kd.R_drew)); exact HO198.out) hb)
          have n2_ := Aside0.mk (below_step (by repeat (first | (with_reducible first | exact HB.out | apply below_alloc | apply pw_below_drewN | apply below_drew1) | exact HB.out)) hb)
          clear HO193
          clear HO198
          clear HB
          have HO193 := n0_
          have HO198 := n1_
          have HB := n2_
          clear n0_ n1_ n2_
          (try clear hb)
          (try clear hb2)
          (try clear hk)
          (try clear hi)
          refine hK.out _ _ ⟨HS0_, HS1_, HS2_, HS3_, HS4_, HS5_, HS6_, HS7_, HS8_, HS9_, HS10_, HS11_, HS12_, HS13_, HS14_⟩ (fun hHeld => ?_)
          clear hK K
          refine norm_ (a' := ?_) ?_ ?_
          rotate_left
          ·show Act.put _ (some 35) _ = _
           simp only [Act.put, List.setIfInBounds_toArray, List.set_cons_zero, List.set_cons_succ, i64_w, i32_w]
           rfl
          refine pure_ (i := 26) (N := some 36) (v := ?_) (a' := ?_) #[true, true, true, true, true, true, true, true, true, true, true, true, true, true, true, true, true, true, true, true, true, true, true, true, true, true, true, false, false, false, false, false, false, false, false, false, false, false, false, false, false, false] rfl rfl (any_of HT_.out (by kernel_rfl)) (fun _ _ _ h => h) (Or.inl ⟨by rfl, ?_⟩) ?_ ?_
          rotate_left
          ·intro w'
           go_simp
           with_reducible rfl
          rotate_left
          ·simp only [Act.put, List.setIfInBounds_toArray, List.set_cons_zero, List.set_cons_succ, i64_w, i32_w]
           rfl
          refine pure_ (i := 27) (N := some 37) (v := ?_) (a' := ?_) #[true, true, true, true, true, true, true, true, true, true, true, true, true, true, true, true, true, true, true, true, true, true, true, true, true, true, true, true, false, false, false, false, false, false, false, false, false, false, false, false, false, false] rfl rfl (any_of HT_.out (by kernel_rfl)) (fun _ _ _ h => h) (Or.inl ⟨by rfl, ?_⟩) ?_ ?_
          rotate_left
          ·intro w'
           go_simp
           with_reducible rfl
          rotate_left
          ·simp only [Act.put, List.setIfInBounds_toArray, List.set_cons_zero, List.set_cons_succ, i64_w, i32_w]
           rfl
          refine pure_ (i := 28) (N := some 38) (v := ?_) (a' := ?_) #[true, true, true, true, true, true, true, true, true, true, true, true, true, true, true, true, true, true, true, true, true, true, true, true, true, true, true, true, true, false, false, false, false, false, false, false, false, false, false, false, false, false] rfl rfl (any_of HT_.out (by kernel_rfl)) (fun _ _ _ h => h) (Or.inl ⟨by rfl, ?_⟩) ?_ ?_
          rotate_left
          ·intro w'
           go_simp
           with_reducible rfl
          rotate_left
          ·simp only [Act.put, List.setIfInBounds_toArray, List.set_cons_zero, List.set_cons_succ, i64_w, i32_w]
           rfl
          refine pure_ (i := 29) (N := some 39) (v := ?_) (a' := ?_) #[true, true, true, true, true, true, true, true, true, true, true, true, true, true, true, true, true, true, true, true, true, true, true, true, true, true, true, true, true, true, false, false, false, false, false, false, false, false, false, false, false, false] rfl rfl (any_of HT_.out (by kernel_rfl)) (fun _ _ _ h => h) (Or.inl ⟨by rfl, ?_⟩) ?_ ?_
          rotate_left
          ·intro w'
           go_simp
           with_reducible rfl
          rotate_left
          ·simp only [Act.put, List.setIfInBounds_toArray, List.set_cons_zero, List.set_cons_succ, i64_w, i32_w]
           rfl
          refine pure_ (i := 31) (N := some 41) (v := ?_) (a' := ?_) #[true, true, true, true, true, true, true, true, true, true, true, true, true, true, true, true, true, true, true, true, true, true, true, true, true, true, true, true, true, true, false, true, false, false, false, false, false, false, false, false, false, false] rfl rfl (any_of HT_.out (by kernel_rfl)) (fun _ _ _ h => h) (Or.inl ⟨by rfl, ?_⟩) ?_ ?_
          rotate_left
          ·intro w'
           go_simp
           with_reducible rfl
          rotate_left
          ·simp only [Act.put, List.setIfInBounds_toArray, List.set_cons_zero, List.set_cons_succ, i64_w, i32_w]
           rfl
          refine pure_ (i := 32) (N := some 42) (v := ?_) (a' := ?_) #[true, true, true, true, true, true, true, true, true, true, true, true, true, true, true, true, true, true, true, true, true, true, true, true, true, true, true, true, true, true, false, true, true, false, false, false, false, false, false, false, false, false] rfl rfl (any_of HT_.out (by kernel_rfl)) (fun _ _ _ h => h) (Or.inl ⟨by rfl, ?_⟩) ?_ ?_
          rotate_left
          ·intro w'
           go_simp
           with_reducible rfl
          rotate_left
          ·simp only [Act.put, List.setIfInBounds_toArray, List.set_cons_zero, List.set_cons_succ, i64_w, i32_w]
           rfl
          refine take_ (i := 30) (N := some 40) (v := ?_) (a' := ?_) #[true, true, true, true, true, true, true, true, true, true, true, true, true, true, true, true, true, true, true, true, true, true, true, true, true, true, true, true, true, true, true, true, true, false, false, false, false, false, false, false, false, false] rfl rfl (take_ofW HT_.out HW_.out (by kernel_rfl)) (fun _ _ _ h => h) (Or.inl ⟨by rfl, ?_⟩) hHeld ?_ ?_
          rotate_left
          ·rintro w' ⟨s0, s1, s2, s3, s4, s5, s6, s7, s8, s9, s10, s11, s12, s13, s14⟩
           go_simp
           with_reducible rfl
          rotate_left
          ·simp only [Act.put, List.setIfInBounds_toArray, List.set_cons_zero, List.set_cons_succ, i64_w, i32_w]
           rfl
          refine take_ (i := 33) (N := some 43) (v := ?_) (a' := ?_) #[true, true, true, true, true, true, true, true, true, true, true, true, true, true, true, true, true, true, true, true, true, true, true, true, true, true, true, true, true, true, true, true, true, true, false, false, false, false, false, false, false, false] rfl rfl (take_ofW HT_.out HW_.out (by kernel_rfl)) (fun _ _ _ h => h) (Or.inl ⟨by rfl, ?_⟩) hHeld ?_ ?_
          rotate_left
          ·rintro w' ⟨s0, s1, s2, s3, s4, s5, s6, s7, s8, s9, s10, s11, s12, s13, s14⟩
           go_simp
           with_reducible rfl
          rotate_left
          ·simp only [Act.put, List.setIfInBounds_toArray, List.set_cons_zero, List.set_cons_succ, i64_w, i32_w]
           rfl
          refine one_ (i := 34) (N := some 44) #[true, true, true, true, true, true, true, true, true, true, true, true, true, true, true, true, true, true, true, true, true, true, true, true, true, true, true, true, true, true, true, true, true, true, true, false, false, false, false, false, false, false] rfl rfl (one_of HT_.out (by kernel_rfl)) (by decide) (fun K hK => ?_)
          refine goes_ Try.func21 (by kernel_rfl) rfl #[.agg #[.int .i64 ((rd_T41 t194 1).f0), .int .i64 ((rd_T41 t194 1).f1), .int .i64 ((rd_T41 t194 1).f2)], .agg #[.int .i64 ((rd_T41 t194 2).f0), .int .i64 ((rd_T41 t194 2).f1), .int .i64 ((rd_T41 t194 2).f2)]] (by rfl) rfl rfl (by (try simp only [List.map_toArray, List.map_cons, List.map_nil]); first | done | rfl | (simp only [List.length_drop, List.length_take]; rfl)) ?_
          with_reducible refine (treelabel_Precedes.calls ((rd_T41 t194 1).f0) ((rd_T41 t194 1).f1) ((rd_T41 t194 1).f2) ((rd_T41 t194 2).f0) ((rd_T41 t194 2).f1) ((rd_T41 t194 2).f2) true _ A11.out).mono ?_
          rintro e w21 ⟨rfl, hb⟩
          have HS0_ := (hb.cell (World.block_lt_of_cell? _ _ (hHeld.1))).trans (hHeld.1)
          have HS1_ := (hb.cell (World.block_lt_of_cell? _ _ (hHeld.2.1))).trans (hHeld.2.1)
          have HS2_ := (hb.cell (World.block_lt_of_cell? _ _ (hHeld.2.2.1))).trans (hHeld.2.2.1)
          have HS3_ := (hb.cell (World.block_lt_of_cell? _ _ (hHeld.2.2.2.1))).trans (hHeld.2.2.2.1)
          have HS4_ := (hb.cell (World.block_lt_of_cell? _ _ (hHeld.2.2.2.2.1))).trans (hHeld.2.2.2.2.1)
          have HS5_ := (hb.cell (World.block_lt_of_cell? _ _ (hHeld.2.2.2.2.2.1))).trans (hHeld.2.2.2.2.2.1)
          have HS6_ := (hb.cell (World.block_lt_of_cell? _ _ (hHeld.2.2.2.2.2.2.1))).trans (hHeld.2.2.2.2.2.2.1)
          have HS7_ := (hb.cell (World.block_lt_of_cell? _ _ (hHeld.2.2.2.2.2.2.2.1))).trans (hHeld.2.2.2.2.2.2.2.1)
          have HS8_ := (hb.cell (World.block_lt_of_cell? _ _ (hHeld.2.2.2.2.2.2.2.2.1))).trans (hHeld.2.2.2.2.2.2.2.2.1)
          have HS9_ := (hb.cell (World.block_lt_of_cell? _ _ (hHeld.2.2.2.2.2.2.2.2.2.1))).trans (hHeld.2.2.2.2.2.2.2.2.2.1)
          have HS10_ := (hb.cell (World.block_lt_of_cell? _ _ (hHeld.2.2.2.2.2.2.2.2.2.2.1))).trans (hHeld.2.2.2.2.2.2.2.2.2.2.1)
          have HS11_ := (hb.cell (World.block_lt_of_cell? _ _ (hHeld.2.2.2.2.2.2.2.2.2.2.2.1))).trans (hHeld.2.2.2.2.2.2.2.2.2.2.2.1)
          have HS12_ := (hb.cell (World.block_lt_of_cell? _ _ (hHeld.2.2.2.2.2.2.2.2.2.2.2.2.1))).trans (hHeld.2.2.2.2.2.2.2.2.2.2.2.2.1)
          have HS13_ := (hb.cell (World.block_lt_of_cell? _ _ (hHeld.2.2.2.2.2.2.2.2.2.2.2.2.2.1))).trans (hHeld.2.2.2.2.2.2.2.2.2.2.2.2.2.1)
          have HS14_ := (hb.cell (World.block_lt_of_cell? _ _ (hHeld.2.2.2.2.2.2.2.2.2.2.2.2.2.2))).trans (hHeld.2.2.2.2.2.2.2.2.2.2.2.2.2.2)
          refine ⟨_, rfl, ?_⟩
          have n0_ := Aside0.mk (Kd.R_below (by (with_reducible repeat (first | apply Kd.R_alloc | apply Kd.R_drewN | apply Kd.R_drew)); exact HO193.out) hb)
          have n1_ := Aside0.mk (Kd.R_below (by (with_reducible repeat (first | apply Kd.R_alloc | apply Kd.R_drewN | apply Kd.R_drew)); exact HO198.out) hb)
          have n2_ := Aside0.mk (below_step (by repeat (first | (with_reducible first | exact HB.out | apply below_alloc | apply pw_below_drewN | apply below_drew1) | exact HB.out)) hb)
          clear HO193
          clear HO198
          clear HB
          have HO193 := n0_
          have HO198 := n1_
          have HB := n2_
          clear n0_ n1_ n2_
          (try clear hb)
          (try clear hb2)
          (try clear hk)
          (try clear hi)
          refine hK.out _ _ ⟨HS0_, HS1_, HS2_, HS3_, HS4_, HS5_, HS6_, HS7_, HS8_, HS9_, HS10_, HS11_, HS12_, HS13_, HS14_⟩ (fun hHeld => ?_)
          clear hK K
          refine norm_ (a' := ?_) ?_ ?_
          rotate_left
          ·show Act.put _ (some 44) _ = _
           simp only [Act.put, List.setIfInBounds_toArray, List.set_cons_zero, List.set_cons_succ, i64_w, i32_w]
           rfl
          refine pure_ (i := 35) (N := some 45) (v := ?_) (a' := ?_) #[true, true, true, true, true, true, true, true, true, true, true, true, true, true, true, true, true, true, true, true, true, true, true, true, true, true, true, true, true, true, true, true, true, true, true, true, false, false, false, false, false, false] rfl rfl (any_of HT_.out (by kernel_rfl)) (fun _ _ _ h => h) (Or.inl ⟨by rfl, ?_⟩) ?_ ?_
          rotate_left
          ·intro w'
           go_simp
           with_reducible rfl
          rotate_left
          ·simp only [Act.put, List.setIfInBounds_toArray, List.set_cons_zero, List.set_cons_succ, i64_w, i32_w]
           rfl
          refine pure_ (i := 36) (N := some 46) (v := ?_) (a' := ?_) #[true, true, true, true, true, true, true, true, true, true, true, true, true, true, true, true, true, true, true, true, true, true, true, true, true, true, true, true, true, true, true, true, true, true, true, true, true, false, false, false, false, false] rfl rfl (any_of HT_.out (by kernel_rfl)) (fun _ _ _ h => h) (Or.inl ⟨by rfl, ?_⟩) ?_ ?_
          rotate_left
          ·intro w'
           go_simp
           with_reducible rfl
          rotate_left
          ·simp only [Act.put, List.setIfInBounds_toArray, List.set_cons_zero, List.set_cons_succ, i64_w, i32_w]
           rfl
          refine pure_ (i := 37) (N := some 47) (v := ?_) (a' := ?_) #[true, true, true, true, true, true, true, true, true, true, true, true, true, true, true, true, true, true, true, true, true, true, true, true, true, true, true, true, true, true, true, true, true, true, true, true, true, true, false, false, false, false] rfl rfl (any_of HT_.out (by kernel_rfl)) (fun _ _ _ h => h) (Or.inl ⟨by rfl, ?_⟩) ?_ ?_
          rotate_left
          ·intro w'
           go_simp
           with_reducible rfl
          rotate_left
          ·simp only [Act.put, List.setIfInBounds_toArray, List.set_cons_zero, List.set_cons_succ, i64_w, i32_w]
           rfl
          refine one_ (i := 38) (N := some 48) #[true, true, true, true, true, true, true, true, true, true, true, true, true, true, true, true, true, true, true, true, true, true, true, true, true, true, true, true, true, true, true, true, true, true, true, true, true, true, true, false, false, false] rfl rfl (one_of HT_.out (by kernel_rfl)) (by decide) (fun K hK => ?_)
          refine goes_ Try.func26 (by kernel_rfl) rfl #[.slice (some ad199) t194.length co19, .int .i64 3, .int .i64 2] (by rfl) rfl rfl (by (try simp only [List.map_toArray, List.map_cons, List.map_nil]); first | done | rfl | (simp only [List.length_drop, List.length_take]; rfl)) ?_
          with_reducible refine (treelabel_Common.calls k _ _ t194 3 2 t206 _ ?side1 ?side2 A13.out).mono ?_
          (case side1 => repeat (first | exact (Kd.R_reads' HO198.out).2.2 | (with_reducible refine Kd.C_alloc ?_ _) | (with_reducible refine Kd.C_drewN ?_ _) | (with_reducible refine Kd.C_drew ?_)))
          (case side2 => exact (Kd.R_reads' HO198.out).2.1)
          rintro e w22 ⟨rfl, hb⟩
          have HS0_ := (hb.cell (World.block_lt_of_cell? _ _ (hHeld.1))).trans (hHeld.1)
          have HS1_ := (hb.cell (World.block_lt_of_cell? _ _ (hHeld.2.1))).trans (hHeld.2.1)
          have HS2_ := (hb.cell (World.block_lt_of_cell? _ _ (hHeld.2.2.1))).trans (hHeld.2.2.1)
          have HS3_ := (hb.cell (World.block_lt_of_cell? _ _ (hHeld.2.2.2.1))).trans (hHeld.2.2.2.1)
          have HS4_ := (hb.cell (World.block_lt_of_cell? _ _ (hHeld.2.2.2.2.1))).trans (hHeld.2.2.2.2.1)
          have HS5_ := (hb.cell (World.block_lt_of_cell? _ _ (hHeld.2.2.2.2.2.1))).trans (hHeld.2.2.2.2.2.1)
          have HS6_ := (hb.cell (World.block_lt_of_cell? _ _ (hHeld.2.2.2.2.2.2.1))).trans (hHeld.2.2.2.2.2.2.1)
          have HS7_ := (hb.cell (World.block_lt_of_cell? _ _ (hHeld.2.2.2.2.2.2.2.1))).trans (hHeld.2.2.2.2.2.2.2.1)
          have HS8_ := (hb.cell (World.block_lt_of_cell? _ _ (hHeld.2.2.2.2.2.2.2.2.1))).trans (hHeld.2.2.2.2.2.2.2.2.1)
          have HS9_ := (hb.cell (World.block_lt_of_cell? _ _ (hHeld.2.2.2.2.2.2.2.2.2.1))).trans (hHeld.2.2.2.2.2.2.2.2.2.1)
          have HS10_ := (hb.cell (World.block_lt_of_cell? _ _ (hHeld.2.2.2.2.2.2.2.2.2.2.1))).trans (hHeld.2.2.2.2.2.2.2.2.2.2.1)
          have HS11_ := (hb.cell (World.block_lt_of_cell? _ _ (hHeld.2.2.2.2.2.2.2.2.2.2.2.1))).trans (hHeld.2.2.2.2.2.2.2.2.2.2.2.1)
          have HS12_ := (hb.cell (World.block_lt_of_cell? _ _ (hHeld.2.2.2.2.2.2.2.2.2.2.2.2.1))).trans (hHeld.2.2.2.2.2.2.2.2.2.2.2.2.1)
          have HS13_ := (hb.cell (World.block_lt_of_cell? _ _ (hHeld.2.2.2.2.2.2.2.2.2.2.2.2.2.1))).trans (hHeld.2.2.2.2.2.2.2.2.2.2.2.2.2.1)
          have HS14_ := (hb.cell (World.block_lt_of_cell? _ _ (hHeld.2.2.2.2.2.2.2.2.2.2.2.2.2.2))).trans (hHeld.2.2.2.2.2.2.2.2.2.2.2.2.2.2)
          refine ⟨_, rfl, ?_⟩
          have n0_ := Aside0.mk (Kd.R_below (by (with_reducible repeat (first | apply Kd.R_alloc | apply Kd.R_drewN | apply Kd.R_drew)); exact HO193.out) hb)
          have n1_ := Aside0.mk (Kd.R_below (by (with_reducible repeat (first | apply Kd.R_alloc | apply Kd.R_drewN | apply Kd.R_drew)); exact HO198.out) hb)
          have n2_ := Aside0.mk (below_step (by repeat (first | (with_reducible first | exact HB.out | apply below_alloc | apply pw_below_drewN | apply below_drew1) | exact HB.out)) hb)
          clear HO193
          clear HO198
          clear HB
          have HO193 := n0_
          have HO198 := n1_
          have HB := n2_
          clear n0_ n1_ n2_
          (try clear hb)
          (try clear hb2)
          (try clear hk)
          (try clear hi)
          refine hK.out _ _ ⟨HS0_, HS1_, HS2_, HS3_, HS4_, HS5_, HS6_, HS7_, HS8_, HS9_, HS10_, HS11_, HS12_, HS13_, HS14_⟩ (fun hHeld => ?_)
          clear hK K
          refine norm_ (a' := ?_) ?_ ?_
          rotate_left
          ·show Act.put _ (some 48) _ = _
           simp only [Act.put, List.setIfInBounds_toArray, List.set_cons_zero, List.set_cons_succ, i64_w, i32_w]
           rfl
          refine pure_ (i := 39) (N := some 49) (v := ?_) (a' := ?_) #[true, true, true, true, true, true, true, true, true, true, true, true, true, true, true, true, true, true, true, true, true, true, true, true, true, true, true, true, true, true, true, true, true, true, true, true, true, true, true, true, false, false] rfl rfl (any_of HT_.out (by kernel_rfl)) (fun _ _ _ h => h) (Or.inl ⟨by rfl, ?_⟩) ?_ ?_
          rotate_left
          ·intro w'
           go_simp
           with_reducible rfl
          rotate_left
          ·simp only [Act.put, List.setIfInBounds_toArray, List.set_cons_zero, List.set_cons_succ, i64_w, i32_w]
           rfl
          refine pure_ (i := 40) (N := some 50) (v := ?_) (a' := ?_) #[true, true, true, true, true, true, true, true, true, true, true, true, true, true, true, true, true, true, true, true, true, true, true, true, true, true, true, true, true, true, true, true, true, true, true, true, true, true, true, true, true, false] rfl rfl (any_of HT_.out (by kernel_rfl)) (fun _ _ _ h => h) (Or.inl ⟨by rfl, ?_⟩) ?_ ?_
          rotate_left
          ·intro w'
           go_simp
           with_reducible rfl
          rotate_left
          ·simp only [Act.put, List.setIfInBounds_toArray, List.set_cons_zero, List.set_cons_succ, i64_w, i32_w]
           rfl
          refine pure_ (i := 41) (N := some 0) (v := ?_) (a' := ?_) #[true, true, true, true, true, true, true, true, true, true, true, true, true, true, true, true, true, true, true, true, true, true, true, true, true, true, true, true, true, true, true, true, true, true, true, true, true, true, true, true, true, true] rfl rfl (any_of HT_.out (by kernel_rfl)) (fun _ _ _ h => h) (Or.inl ⟨by rfl, ?_⟩) ?_ ?_
          rotate_left
          ·intro w'
           go_simp
           with_reducible rfl
          rotate_left
          ·simp only [Act.put, List.setIfInBounds_toArray, List.set_cons_zero, List.set_cons_succ, i64_w, i32_w]
           rfl
          refine done_ (done_of HT_.out (by kernel_rfl)) ?_
          try go_wp2
          go_ret
          exact ⟨by first | rfl | (simp [errW_none, errW_some] <;> rfl) | (simp [*, errW_none, errW_some] <;> rfl), by repeat (first | (with_reducible first | exact HB.out | apply below_alloc | apply pw_below_drewN | apply below_drew1) | exact HB.out)⟩
         ·rw [if_neg c12] at H
          exact absurd (H.trans (congrArg some Hr.out)) (by simp)
        ·rw [if_neg c10] at H
         exact absurd (H.trans (congrArg some Hr.out)) (by simp)
       ·rw [if_neg c9] at H
        exact absurd (H.trans (congrArg some Hr.out)) (by simp)
      ·rw [if_neg c7] at H
       exact absurd (H.trans (congrArg some Hr.out)) (by simp)
     ·rw [if_neg c6] at H
      exact absurd (H.trans (congrArg some Hr.out)) (by simp)
    ·rw [if_neg c5] at H
     exact absurd (H.trans (congrArg some Hr.out)) (by simp)
   ·rw [if_neg c4] at H
    exact absurd (H.trans (congrArg some Hr.out)) (by simp)
  ·rw [if_neg c3] at H
   exact absurd (H.trans (congrArg some Hr.out)) (by simp)
 ·rw [if_neg c2] at H
  exact absurd (H.trans (congrArg some Hr.out)) (by simp)

end Go.Proofs.Ythjcmodhleoocaa.Q
/- FCorporalaw10TreelabelAssigns -/
namespace Go.Proofs.Ythjcmodhleoocaa.Q
open Go.RowKit Go.Proofs.YthjcmodhleoocaaW.PrintWords Go.Proofs.YthjcmodhleoocaaW.PrintLast Go.Proofs.YthjcmodhleoocaaW.PrintMore
attribute [local go_sem] max2_int min2_int max_two min_two max_three min_three max_four min_four   -- for this text's walks alone
set_option linter.unusedVariables false
set_option linter.unusedSimpArgs false

/-! ### corporalaw10_TreelabelAssigns: function 3 -/
def corporalaw10_TreelabelAssigns.f (k : Nat) (l0 : List Int) : Option (Bool) := if (l0.length : Int) > 60 then (some true) else ((treelabel_Assign.f k l0).bind fun bt207 => ((corporaref10_Assign.f k l0).bind fun bt212 => ((corporalaw10_equal.f k bt207.1 bt212.1).bind fun t217 => (if t217 = true then (if bt207.2.1 = bt212.2.1 then (if bt207.2.2 = bt212.2.2 then ((corporalaw10_awake.f k).bind fun t218 => (some t218)) else (some false)) else (some false)) else (some false)))))
theorem corporalaw10_TreelabelAssigns.mono : ∀ a0 k, LeO (corporalaw10_TreelabelAssigns.f k a0) (corporalaw10_TreelabelAssigns.f (k + 1) a0) := by
 intro a0 k
 unfold corporalaw10_TreelabelAssigns.f
 repeat' first
   | (with_reducible exact corporalaw10_awake.mono _)
   | (with_reducible exact corporalaw10_equal.mono _ _ _)
   | (with_reducible exact corporaref10_Assign.mono _ _)
   | (with_reducible exact treelabel_Assign.mono _ _)
   | (with_reducible exact LeO.refl _)
   | (with_reducible exact LeO.none _)
   | (with_reducible refine LeO.ite ?_ ?_)
   | (with_reducible refine LeO.bind ?_ (fun _ => ?_))
   | exact corporalaw10_awake.mono _
   | exact corporalaw10_equal.mono _ _ _
   | exact corporaref10_Assign.mono _ _
   | exact treelabel_Assign.mono _ _
   | exact LeO.none _
   | refine LeO.ite ?_ ?_
   | refine LeO.bind ?_ (fun _ => ?_)
set_option maxHeartbeats 8000000 in
set_option maxRecDepth 100000 in
theorem corporalaw10_TreelabelAssigns.calls (k : Nat) (A0 : Option Addr) (c0 : Nat) (l0 : List Int) (r : Bool) (w : World) (hr0 : Kd.C (Kd.int .i64) w A0 l0.length l0) (hc0 : l0.length ≤ c0) (h : corporalaw10_TreelabelAssigns.f k l0 = some r) :
  Calls Try.prog 3 #[.slice A0 l0.length c0] w fun e w' => e = .returned (.bool r) ∧ Below w.heap.size w w' := by
 have HR0 := Aside0.mk hr0
 have HC0 := Aside0.mk hc0
 clear hr0 hc0
 have HB := Aside0.mk (Below.refl w.heap.size w)
 have H : (if (l0.length : Int) > 60 then (some true) else ((treelabel_Assign.f k l0).bind fun bt207 => ((corporaref10_Assign.f k l0).bind fun bt212 => ((corporalaw10_equal.f k bt207.1 bt212.1).bind fun t217 => (if t217 = true then (if bt207.2.1 = bt212.2.1 then (if bt207.2.2 = bt212.2.2 then ((corporalaw10_awake.f k).bind fun t218 => (some t218)) else (some false)) else (some false)) else (some false)))))) = some r := h
 clear h
 by_cases c2 : (l0.length : Int) > 60
 ·rw [if_pos c2] at H
  have c2b0 : decide (60 < (l0.length : Int)) = true := decide_eq_true c2
  have c2b1 : decide (60 < l0.length) = true := decide_eq_true (by omega)
  clear c2
  obtain rfl := Option.some.inj H
  go_enter Try.func3, Try.ntmps3
  go_wp2
  go_ret
  exact ⟨by first | rfl | (simp [errW_none, errW_some] <;> rfl) | (simp [*, errW_none, errW_some] <;> rfl), by repeat (first | (with_reducible first | exact HB.out | apply below_alloc | apply pw_below_drewN | apply below_drew1) | exact HB.out)⟩
 ·rw [if_neg c2] at H
  have c2b0 : decide (60 < (l0.length : Int)) = false := decide_eq_false c2
  have c2b1 : decide (60 < l0.length) = false := decide_eq_false (by omega)
  clear c2
  replace H := Option.bind_eq_some_iff.mp H
  obtain ⟨⟨t207, t208, t209⟩, A30, H⟩ := H
  replace H : ((corporaref10_Assign.f k l0).bind fun bt212 => ((corporalaw10_equal.f k t207 bt212.1).bind fun t217 => (if t217 = true then (if t208 = bt212.2.1 then (if t209 = bt212.2.2 then ((corporalaw10_awake.f k).bind fun t218 => (some t218)) else (some false)) else (some false)) else (some false)))) = some r := H
  have A3 := Aside0.mk A30
  clear A30
  replace H := Option.bind_eq_some_iff.mp H
  obtain ⟨⟨t212, t213, t214⟩, A40, H⟩ := H
  replace H : ((corporalaw10_equal.f k t207 t212).bind fun t217 => (if t217 = true then (if t208 = t213 then (if t209 = t214 then ((corporalaw10_awake.f k).bind fun t218 => (some t218)) else (some false)) else (some false)) else (some false))) = some r := H
  have A4 := Aside0.mk A40
  clear A40
  replace H := Option.bind_eq_some_iff.mp H
  obtain ⟨t217, A50, H⟩ := H
  replace H : (if t217 = true then (if t208 = t213 then (if t209 = t214 then ((corporalaw10_awake.f k).bind fun t218 => (some t218)) else (some false)) else (some false)) else (some false)) = some r := H
  have A5 := Aside0.mk A50
  clear A50
  by_cases c6 : t217 = true
  ·subst c6
   have H1 : (if t208 = t213 then (if t209 = t214 then ((corporalaw10_awake.f k).bind fun t218 => (some t218)) else (some false)) else (some false)) = some r := by rw [if_pos rfl] at H; exact H
   clear H
   have H := H1
   clear H1
   by_cases c7 : t208 = t213
   ·rw [if_pos c7] at H
    have c7b0 : (t208 == t213) = true := beq_iff_eq.mpr c7
    have c7b1 : (t208 != t213) = false := bne_eq_false_iff_eq.mpr c7
    clear c7
    by_cases c8 : t209 = t214
    ·rw [if_pos c8] at H
     have c8b0 : (t209 == t214) = true := beq_iff_eq.mpr c8
     have c8b1 : (t209 != t214) = false := bne_eq_false_iff_eq.mpr c8
     clear c8
     replace H := Option.bind_eq_some_iff.mp H
     obtain ⟨t218, A90, H⟩ := H
     replace H : (some t218) = some r := H
     have A9 := Aside0.mk A90
     clear A90
     obtain rfl := Option.some.inj H
     go_enter Try.func3, Try.ntmps3
     go_wp2_with (first | ((with_reducible refine gate_callee (f := 11) rfl ?_); refine goesL_ (some 14) rfl rfl Try.func11 (by kernel_rfl) rfl #[.slice A0 l0.length c0] rfl (by (try simp only [List.map_toArray, List.map_cons, List.map_nil]); first | done | rfl | (simp only [List.length_drop, List.length_take]; rfl)) ?_; (with_reducible refine (treelabel_Assign.calls k _ _ l0 t207 t208 t209 _ ?side1 ?side2 A3.out).mono ?_); (case side1 => repeat (first | exact HR0.out | (with_reducible refine Kd.C_alloc ?_ _) | (with_reducible refine Kd.C_drewN ?_ _) | (with_reducible refine Kd.C_drew ?_))); (case side2 => exact HC0.out); rintro e w10 ⟨v210, rfl, ho0, hb⟩; refine ⟨_, rfl, ?_⟩; have n0_ := Aside0.mk (Kd.R_lower ho0 (below_size (by repeat (first | (with_reducible first | exact HB.out | apply below_alloc | apply pw_below_drewN | apply below_drew1) | exact HB.out)))); have n1_ := Aside0.mk (below_step (by repeat (first | (with_reducible first | exact HB.out | apply below_alloc | apply pw_below_drewN | apply below_drew1) | exact HB.out)) hb); clear HB; have HO211 := n0_; have HB := n1_; clear n0_ n1_; (try clear hb); (try clear hb2); (try clear hk); (try clear hi); (try clear ho0)) | ((with_reducible refine gate_callee (f := 12) rfl ?_); refine goesL_ (some 20) rfl rfl Try.func12 (by kernel_rfl) rfl #[.slice A0 l0.length c0] rfl (by (try simp only [List.map_toArray, List.map_cons, List.map_nil]); first | done | rfl | (simp only [List.length_drop, List.length_take]; rfl)) ?_; (with_reducible refine (corporaref10_Assign.calls k _ _ l0 t212 t213 t214 _ ?side1 ?side2 A4.out).mono ?_); (case side1 => repeat (first | exact (Kd.C_below HR0.out HB.out) | (with_reducible refine Kd.C_alloc ?_ _) | (with_reducible refine Kd.C_drewN ?_ _) | (with_reducible refine Kd.C_drew ?_))); (case side2 => exact HC0.out); rintro e w11 ⟨v215, rfl, ho0, hb⟩; refine ⟨_, rfl, ?_⟩; have n0_ := Aside0.mk (Kd.R_below (by (with_reducible repeat (first | apply Kd.R_alloc | apply Kd.R_drewN | apply Kd.R_drew)); exact HO211.out) hb); have n1_ := Aside0.mk (Kd.R_lower ho0 (below_size (by repeat (first | (with_reducible first | exact HB.out | apply below_alloc | apply pw_below_drewN | apply below_drew1) | exact HB.out)))); have n2_ := Aside0.mk (below_step (by repeat (first | (with_reducible first | exact HB.out | apply below_alloc | apply pw_below_drewN | apply below_drew1) | exact HB.out)) hb); clear HO211; clear HB; have HO211 := n0_; have HO216 := n1_; have HB := n2_; clear n0_ n1_ n2_; (try clear hb); (try clear hb2); (try clear hk); (try clear hi); (try clear ho0); obtain ⟨Ao12, co12, eo12⟩ := Kd.R_slice HO211.out; subst eo12; obtain ⟨Ao13, co13, eo13⟩ := Kd.R_slice HO216.out; subst eo13) | ((with_reducible refine gate_callee (f := 13) rfl ?_); refine goesL_ (some 26) rfl rfl Try.func13 (by kernel_rfl) rfl #[.slice Ao12 t207.length co12, .slice Ao13 t212.length co13] rfl (by (try simp only [List.map_toArray, List.map_cons, List.map_nil]); first | done | rfl | (simp only [List.length_drop, List.length_take]; rfl)) ?_; (with_reducible refine (corporalaw10_equal.calls k _ _ t207 _ _ t212 true _ ?side1 ?side2 ?side3 ?side4 A5.out).mono ?_); (case side1 => repeat (first | exact (Kd.R_reads' HO211.out).2.2 | (with_reducible refine Kd.C_alloc ?_ _) | (with_reducible refine Kd.C_drewN ?_ _) | (with_reducible refine Kd.C_drew ?_))); (case side2 => exact (Kd.R_reads' HO211.out).2.1); (case side3 => repeat (first | exact (Kd.R_reads' HO216.out).2.2 | (with_reducible refine Kd.C_alloc ?_ _) | (with_reducible refine Kd.C_drewN ?_ _) | (with_reducible refine Kd.C_drew ?_))); (case side4 => exact (Kd.R_reads' HO216.out).2.1); rintro e w' ⟨rfl, ⟨nd, rfl⟩⟩; refine ⟨_, rfl, ?_⟩) | (go_at_call 14; (with_reducible refine (corporalaw10_awake.calls k  t218 _ A9.out).mono ?_); rintro e w14 ⟨rfl, hb⟩; have n0_ := Aside0.mk (Kd.R_below (by (with_reducible repeat (first | apply Kd.R_alloc | apply Kd.R_drewN | apply Kd.R_drew)); exact HO211.out) hb); have n1_ := Aside0.mk (Kd.R_below (by (with_reducible repeat (first | apply Kd.R_alloc | apply Kd.R_drewN | apply Kd.R_drew)); exact HO216.out) hb); have n2_ := Aside0.mk (below_step (by repeat (first | (with_reducible first | exact HB.out | apply below_alloc | apply pw_below_drewN | apply below_drew1) | exact HB.out)) hb); clear HO211; clear HO216; clear HB; have HO211 := n0_; have HO216 := n1_; have HB := n2_; clear n0_ n1_ n2_; (try clear hb); (try clear hb2); (try clear hk); (try clear hi)))
     go_ret
     exact ⟨by first | rfl | (simp [errW_none, errW_some] <;> rfl) | (simp [*, errW_none, errW_some] <;> rfl), by repeat (first | (with_reducible first | exact HB.out | apply below_alloc | apply pw_below_drewN | apply below_drew1) | exact HB.out)⟩
    ·rw [if_neg c8] at H
     have c8b0 : (t209 == t214) = false := beq_eq_false_iff_ne.mpr c8
     have c8b1 : (t209 != t214) = true := bne_iff_ne.mpr c8
     obtain rfl := Option.some.inj H
     go_enter Try.func3, Try.ntmps3
     go_wp2_with (first | ((with_reducible refine gate_callee (f := 11) rfl ?_); refine goesL_ (some 14) rfl rfl Try.func11 (by kernel_rfl) rfl #[.slice A0 l0.length c0] rfl (by (try simp only [List.map_toArray, List.map_cons, List.map_nil]); first | done | rfl | (simp only [List.length_drop, List.length_take]; rfl)) ?_; (with_reducible refine (treelabel_Assign.calls k _ _ l0 t207 t208 t209 _ ?side1 ?side2 A3.out).mono ?_); (case side1 => repeat (first | exact HR0.out | (with_reducible refine Kd.C_alloc ?_ _) | (with_reducible refine Kd.C_drewN ?_ _) | (with_reducible refine Kd.C_drew ?_))); (case side2 => exact HC0.out); rintro e w15 ⟨v210, rfl, ho0, hb⟩; refine ⟨_, rfl, ?_⟩; have n0_ := Aside0.mk (Kd.R_lower ho0 (below_size (by repeat (first | (with_reducible first | exact HB.out | apply below_alloc | apply pw_below_drewN | apply below_drew1) | exact HB.out)))); have n1_ := Aside0.mk (below_step (by repeat (first | (with_reducible first | exact HB.out | apply below_alloc | apply pw_below_drewN | apply below_drew1) | exact HB.out)) hb); clear HB; have HO211 := n0_; have HB := n1_; clear n0_ n1_; (try clear hb); (try clear hb2); (try clear hk); (try clear hi); (try clear ho0)) | ((with_reducible refine gate_callee (f := 12) rfl ?_); refine goesL_ (some 20) rfl rfl Try.func12 (by kernel_rfl) rfl #[.slice A0 l0.length c0] rfl (by (try simp only [List.map_toArray, List.map_cons, List.map_nil]); first | done | rfl | (simp only [List.length_drop, List.length_take]; rfl)) ?_; (with_reducible refine (corporaref10_Assign.calls k _ _ l0 t212 t213 t214 _ ?side1 ?side2 A4.out).mono ?_); (case side1 => repeat (first | exact (Kd.C_below HR0.out HB.out) | (with_reducible refine Kd.C_alloc ?_ _) | (with_reducible refine Kd.C_drewN ?_ _) | (with_reducible refine Kd.C_drew ?_))); (case side2 => exact HC0.out); rintro e w16 ⟨v215, rfl, ho0, hb⟩; refine ⟨_, rfl, ?_⟩; have n0_ := Aside0.mk (Kd.R_below (by (with_reducible repeat (first | apply Kd.R_alloc | apply Kd.R_drewN | apply Kd.R_drew)); exact HO211.out) hb); have n1_ := Aside0.mk (Kd.R_lower ho0 (below_size (by repeat (first | (with_reducible first | exact HB.out | apply below_alloc | apply pw_below_drewN | apply below_drew1) | exact HB.out)))); have n2_ := Aside0.mk (below_step (by repeat (first | (with_reducible first | exact HB.out | apply below_alloc | apply pw_below_drewN | apply below_drew1) | exact HB.out)) hb); clear HO211; clear HB; have HO211 := n0_; have HO216 := n1_; have HB := n2_; clear n0_ n1_ n2_; (try clear hb); (try clear hb2); (try clear hk); (try clear hi); (try clear ho0); obtain ⟨Ao17, co17, eo17⟩ := Kd.R_slice HO211.out; subst eo17; obtain ⟨Ao18, co18, eo18⟩ := Kd.R_slice HO216.out; subst eo18) | ((with_reducible refine gate_callee (f := 13) rfl ?_); refine goesL_ (some 26) rfl rfl Try.func13 (by kernel_rfl) rfl #[.slice Ao17 t207.length co17, .slice Ao18 t212.length co18] rfl (by (try simp only [List.map_toArray, List.map_cons, List.map_nil]); first | done | rfl | (simp only [List.length_drop, List.length_take]; rfl)) ?_; (with_reducible refine (corporalaw10_equal.calls k _ _ t207 _ _ t212 true _ ?side1 ?side2 ?side3 ?side4 A5.out).mono ?_); (case side1 => repeat (first | exact (Kd.R_reads' HO211.out).2.2 | (with_reducible refine Kd.C_alloc ?_ _) | (with_reducible refine Kd.C_drewN ?_ _) | (with_reducible refine Kd.C_drew ?_))); (case side2 => exact (Kd.R_reads' HO211.out).2.1); (case side3 => repeat (first | exact (Kd.R_reads' HO216.out).2.2 | (with_reducible refine Kd.C_alloc ?_ _) | (with_reducible refine Kd.C_drewN ?_ _) | (with_reducible refine Kd.C_drew ?_))); (case side4 => exact (Kd.R_reads' HO216.out).2.1); rintro e w' ⟨rfl, ⟨nd, rfl⟩⟩; refine ⟨_, rfl, ?_⟩))
     go_ret
     exact ⟨by first | rfl | (simp [errW_none, errW_some] <;> rfl) | (simp [*, errW_none, errW_some] <;> rfl), by repeat (first | (with_reducible first | exact HB.out | apply below_alloc | apply pw_below_drewN | apply below_drew1) | exact HB.out)⟩
   ·rw [if_neg c7] at H
    have c7b0 : (t208 == t213) = false := beq_eq_false_iff_ne.mpr c7
    have c7b1 : (t208 != t213) = true := bne_iff_ne.mpr c7
    obtain rfl := Option.some.inj H
    go_enter Try.func3, Try.ntmps3
    go_wp2_with (first | ((with_reducible refine gate_callee (f := 11) rfl ?_); refine goesL_ (some 14) rfl rfl Try.func11 (by kernel_rfl) rfl #[.slice A0 l0.length c0] rfl (by (try simp only [List.map_toArray, List.map_cons, List.map_nil]); first | done | rfl | (simp only [List.length_drop, List.length_take]; rfl)) ?_; (with_reducible refine (treelabel_Assign.calls k _ _ l0 t207 t208 t209 _ ?side1 ?side2 A3.out).mono ?_); (case side1 => repeat (first | exact HR0.out | (with_reducible refine Kd.C_alloc ?_ _) | (with_reducible refine Kd.C_drewN ?_ _) | (with_reducible refine Kd.C_drew ?_))); (case side2 => exact HC0.out); rintro e w19 ⟨v210, rfl, ho0, hb⟩; refine ⟨_, rfl, ?_⟩; have n0_ := Aside0.mk (Kd.R_lower ho0 (below_size (by repeat (first | (with_reducible first | exact HB.out | apply below_alloc | apply pw_below_drewN | apply below_drew1) | exact HB.out)))); have n1_ := Aside0.mk (below_step (by repeat (first | (with_reducible first | exact HB.out | apply below_alloc | apply pw_below_drewN | apply below_drew1) | exact HB.out)) hb); clear HB; have HO211 := n0_; have HB := n1_; clear n0_ n1_; (try clear hb); (try clear hb2); (try clear hk); (try clear hi); (try clear ho0)) | ((with_reducible refine gate_callee (f := 12) rfl ?_); refine goesL_ (some 20) rfl rfl Try.func12 (by kernel_rfl) rfl #[.slice A0 l0.length c0] rfl (by (try simp only [List.map_toArray, List.map_cons, List.map_nil]); first | done | rfl | (simp only [List.length_drop, List.length_take]; rfl)) ?_; (with_reducible refine (corporaref10_Assign.calls k _ _ l0 t212 t213 t214 _ ?side1 ?side2 A4.out).mono ?_); (case side1 => repeat (first | exact (Kd.C_below HR0.out HB.out) | (with_reducible refine Kd.C_alloc ?_ _) | (with_reducible refine Kd.C_drewN ?_ _) | (with_reducible refine Kd.C_drew ?_))); (case side2 => exact HC0.out); rintro e w20 ⟨v215, rfl, ho0, hb⟩; refine ⟨_, rfl, ?_⟩; have n0_ := Aside0.mk (Kd.R_below (by (with_reducible repeat (first | apply Kd.R_alloc | apply Kd.R_drewN | apply Kd.R_drew)); exact HO211.out) hb); have n1_ := Aside0.mk (Kd.R_lower ho0 (below_size (by repeat (first | (with_reducible first | exact HB.out | apply below_alloc | apply pw_below_drewN | apply below_drew1) | exact HB.out)))); have n2_ := Aside0.mk (below_step (by repeat (first | (with_reducible first | exact HB.out | apply below_alloc | apply pw_below_drewN | apply below_drew1) | exact HB.out)) hb); clear HO211; clear HB; have HO211 := n0_; have HO216 := n1_; have HB := n2_; clear n0_ n1_ n2_; (try clear hb); (try clear hb2); (try clear hk); (try clear hi); (try clear ho0); obtain ⟨Ao21, co21, eo21⟩ := Kd.R_slice HO211.out; subst eo21; obtain ⟨Ao22, co22, eo22⟩ := Kd.R_slice HO216.out; subst eo22) | ((with_reducible refine gate_callee (f := 13) rfl ?_); refine goesL_ (some 26) rfl rfl Try.func13 (by kernel_rfl) rfl #[.slice Ao21 t207.length co21, .slice Ao22 t212.length co22] rfl (by (try simp only [List.map_toArray, List.map_cons, List.map_nil]); first | done | rfl | (simp only [List.length_drop, List.length_take]; rfl)) ?_; (with_reducible refine (corporalaw10_equal.calls k _ _ t207 _ _ t212 true _ ?side1 ?side2 ?side3 ?side4 A5.out).mono ?_); (case side1 => repeat (first | exact (Kd.R_reads' HO211.out).2.2 | (with_reducible refine Kd.C_alloc ?_ _) | (with_reducible refine Kd.C_drewN ?_ _) | (with_reducible refine Kd.C_drew ?_))); (case side2 => exact (Kd.R_reads' HO211.out).2.1); (case side3 => repeat (first | exact (Kd.R_reads' HO216.out).2.2 | (with_reducible refine Kd.C_alloc ?_ _) | (with_reducible refine Kd.C_drewN ?_ _) | (with_reducible refine Kd.C_drew ?_))); (case side4 => exact (Kd.R_reads' HO216.out).2.1); rintro e w' ⟨rfl, ⟨nd, rfl⟩⟩; refine ⟨_, rfl, ?_⟩))
    go_ret
    exact ⟨by first | rfl | (simp [errW_none, errW_some] <;> rfl) | (simp [*, errW_none, errW_some] <;> rfl), by repeat (first | (with_reducible first | exact HB.out | apply below_alloc | apply pw_below_drewN | apply below_drew1) | exact HB.out)⟩
  ·replace c6 := Bool.eq_false_iff.mpr c6
   subst c6
   have H1 : (some false) = some r := by rw [if_neg (show ¬ (false = true) by decide)] at H; exact H
   clear H
   have H := H1
   clear H1
   obtain rfl := Option.some.inj H
   go_enter Try.func3, Try.ntmps3
   go_wp2_with (first | ((with_reducible refine gate_callee (f := 11) rfl ?_); refine goesL_ (some 14) rfl rfl Try.func11 (by kernel_rfl) rfl #[.slice A0 l0.length c0] rfl (by (try simp only [List.map_toArray, List.map_cons, List.map_nil]); first | done | rfl | (simp only [List.length_drop, List.length_take]; rfl)) ?_; (with_reducible refine (treelabel_Assign.calls k _ _ l0 t207 t208 t209 _ ?side1 ?side2 A3.out).mono ?_); (case side1 => repeat (first | exact HR0.out | (with_reducible refine Kd.C_alloc ?_ _) | (with_reducible refine Kd.C_drewN ?_ _) | (with_reducible refine Kd.C_drew ?_))); (case side2 => exact HC0.out); rintro e w23 ⟨v210, rfl, ho0, hb⟩; refine ⟨_, rfl, ?_⟩; have n0_ := Aside0.mk (Kd.R_lower ho0 (below_size (by repeat (first | (with_reducible first | exact HB.out | apply below_alloc | apply pw_below_drewN | apply below_drew1) | exact HB.out)))); have n1_ := Aside0.mk (below_step (by repeat (first | (with_reducible first | exact HB.out | apply below_alloc | apply pw_below_drewN | apply below_drew1) | exact HB.out)) hb); clear HB; have HO211 := n0_; have HB := n1_; clear n0_ n1_; (try clear hb); (try clear hb2); (try clear hk); (try clear hi); (try clear ho0)) | ((with_reducible refine gate_callee (f := 12) rfl ?_); refine goesL_ (some 20) rfl rfl Try.func12 (by kernel_rfl) rfl #[.slice A0 l0.length c0] rfl (by (try simp only [List.map_toArray, List.map_cons, List.map_nil]); first | done | rfl | (simp only [List.length_drop, List.length_take]; rfl)) ?_; (with_reducible refine (corporaref10_Assign.calls k _ _ l0 t212 t213 t214 _ ?side1 ?side2 A4.out).mono ?_); (case side1 => repeat (first | exact (Kd.C_below HR0.out HB.out) | (with_reducible refine Kd.C_alloc ?_ _) | (with_reducible refine Kd.C_drewN ?_ _) | (with_reducible refine Kd.C_drew ?_))); (case side2 => exact HC0.out); rintro e w24 ⟨v215, rfl, ho0, hb⟩; refine ⟨_, rfl, ?_⟩; have n0_ := Aside0.mk (Kd.R_below (by (with_reducible repeat (first | apply Kd.R_alloc | apply Kd.R_drewN | apply Kd.R_drew)); exact HO211.out) hb); have n1_ := Aside0.mk (Kd.R_lower ho0 (below_size (by repeat (first | (with_reducible first | exact HB.out | apply below_alloc | apply pw_below_drewN | apply below_drew1) | exact HB.out)))); have n2_ := Aside0.mk (below_step (by repeat (first | (with_reducible first | exact HB.out | apply below_alloc | apply pw_below_drewN | apply below_drew1) | exact HB.out)) hb); clear HO211; clear HB; have HO211 := n0_; have HO216 := n1_; have HB := n2_; clear n0_ n1_ n2_; (try clear hb); (try clear hb2); (try clear hk); (try clear hi); (try clear ho0); obtain ⟨Ao25, co25, eo25⟩ := Kd.R_slice HO211.out; subst eo25; obtain ⟨Ao26, co26, eo26⟩ := Kd.R_slice HO216.out; subst eo26) | ((with_reducible refine gate_callee (f := 13) rfl ?_); refine goesL_ (some 26) rfl rfl Try.func13 (by kernel_rfl) rfl #[.slice Ao25 t207.length co25, .slice Ao26 t212.length co26] rfl (by (try simp only [List.map_toArray, List.map_cons, List.map_nil]); first | done | rfl | (simp only [List.length_drop, List.length_take]; rfl)) ?_; (with_reducible refine (corporalaw10_equal.calls k _ _ t207 _ _ t212 false _ ?side1 ?side2 ?side3 ?side4 A5.out).mono ?_); (case side1 => repeat (first | exact (Kd.R_reads' HO211.out).2.2 | (with_reducible refine Kd.C_alloc ?_ _) | (with_reducible refine Kd.C_drewN ?_ _) | (with_reducible refine Kd.C_drew ?_))); (case side2 => exact (Kd.R_reads' HO211.out).2.1); (case side3 => repeat (first | exact (Kd.R_reads' HO216.out).2.2 | (with_reducible refine Kd.C_alloc ?_ _) | (with_reducible refine Kd.C_drewN ?_ _) | (with_reducible refine Kd.C_drew ?_))); (case side4 => exact (Kd.R_reads' HO216.out).2.1); rintro e w' ⟨rfl, ⟨nd, rfl⟩⟩; refine ⟨_, rfl, ?_⟩))
   go_ret
   exact ⟨by first | rfl | (simp [errW_none, errW_some] <;> rfl) | (simp [*, errW_none, errW_some] <;> rfl), by repeat (first | (with_reducible first | exact HB.out | apply below_alloc | apply pw_below_drewN | apply below_drew1) | exact HB.out)⟩

/-- THE ONE PURE STATEMENT of corporalaw10_TreelabelAssigns: yours. -/
def corporalaw10_TreelabelAssigns.Pure : Prop := ∀ (l0 : List Int), l0.length ≤ maxLen → l0.length * 8 ≤ 140737488351232 → (∀ x ∈ l0, (Lit.int .i64 x).wf = true) → ∃ k, corporalaw10_TreelabelAssigns.f k l0 = some true
theorem corporalaw10_TreelabelAssigns.walk (P : corporalaw10_TreelabelAssigns.Pure) (a0 : Option Addr) (len0 cap0 : Nat) (z0 : List Int) (w : World) (w0 : (a0 = none ∧ len0 = 0 ∧ cap0 = 0 ∧ z0 = []) ∨ ∃ x, a0 = some x ∧ len0 ≤ cap0 ∧ cap0 ≤ maxLen ∧ z0.length = cap0 ∧ (∀ i, i < z0.length → w.cell? (x.add i) = some (.int .i64 (z0.getD i 0))) ∧ ∀ n ∈ z0, (Lit.int .i64 n).wf = true) (y0 : len0 * 8 ≤ 140737488351232) :
  Calls Try.prog 3 #[.slice a0 len0 cap0] w fun e w' => e = .returned (.bool true) ∧ Below w.heap.size w w' := by
 obtain ⟨l0, rfl, hr0, hm0, hw0, hc0⟩ := ReadsInt.ofRowC w0
 obtain ⟨k, h⟩ := P l0 hm0 y0 hw0
 refine (corporalaw10_TreelabelAssigns.calls k _ _ l0 true w (Kd.C_of_reads (d := (0 : Int)) (h1 := fun _ => rfl) hr0) hc0 h).mono ?_
 rintro e w' ⟨rfl, hd⟩
 exact ⟨rfl, hd⟩

end Go.Proofs.Ythjcmodhleoocaa.Q
/- Up -/
namespace Go.Proofs.Ythjcmodhleoocaa.TP

theorem pigeon : ∀ (n : Nat) (f : Nat → Nat), (∀ i, i ≤ n → f i < n) → ∃ i j, i < j ∧ j ≤ n ∧ f i = f j := by
  intro n
  induction n with
  | zero => intro f h; exact absurd (h 0 (Nat.le_refl _)) (Nat.not_lt_zero _)
  | succ n ih =>
    intro f h
    by_cases hx : ∃ i, i ≤ n ∧ f i = f (n + 1)
    · obtain ⟨i, hi, e⟩ := hx
      exact ⟨i, n + 1, by omega, Nat.le_refl _, e⟩
    · have hne : ∀ i, i ≤ n → f i ≠ f (n + 1) := fun i hi e => hx ⟨i, hi, e⟩
      obtain ⟨i, j, hij, hj, e⟩ := ih (fun i => if f i = n then f (n + 1) else f i) (fun i hi => by
        have h1 := h i (by omega)
        have h2 := h (n + 1) (Nat.le_refl _)
        have h3 := hne i hi
        show (if f i = n then f (n + 1) else f i) < n
        split <;> omega)
      refine ⟨i, j, hij, by omega, ?_⟩
      have h3 := hne i (by omega)
      have h4 := hne j hj
      split at e <;> split at e <;> omega

/-- Distinct members of a list that all lie in another: no more of them. -/
theorem inj_le (n m : Nat) (f : Nat → Nat) (hf : ∀ i, i < n → f i < m) (hi : ∀ i j, i < n → j < n → f i = f j → i = j) : n ≤ m := by
  rcases Nat.lt_or_ge m n with h | h
  · obtain ⟨i, j, hij, hj, e⟩ := pigeon m f (fun i hi' => hf i (by omega))
    have := hi i j (by omega) (by omega) e
    omega
  · exact h

/-- The element at an index. -/
def rdi (ps : List Int) (x : Int) : Int := ps.getD x.toNat 0
/-- One step up; what is no node stays. -/
def stp (ps : List Int) (x : Int) : Int := if x < 0 then x else rdi ps x
def up (ps : List Int) : Nat → Int → Int
  | 0, x => x
  | m + 1, x => up ps m (stp ps x)
theorem stp_neg {ps : List Int} {x : Int} (h : x < 0) : stp ps x = x := if_pos h
theorem stp_nn {ps : List Int} {x : Int} (h : 0 ≤ x) : stp ps x = rdi ps x := if_neg (by omega)
theorem up_succ (ps : List Int) (m : Nat) (x : Int) : up ps (m + 1) x = up ps m (stp ps x) := rfl
theorem up_out (ps : List Int) (m : Nat) : ∀ x, up ps (m + 1) x = stp ps (up ps m x) := by
  induction m with
  | zero => intro x; rfl
  | succ m ih => intro x; rw [up_succ, ih]; rfl
theorem up_add (ps : List Int) (a b : Nat) (x : Int) : up ps (a + b) x = up ps a (up ps b x) := by
  induction a generalizing b x with
  | zero => rw [Nat.zero_add]; rfl
  | succ a ih => rw [show a + 1 + b = a + (b + 1) from by omega, ih, up_out, up_succ]
theorem up_neg {ps : List Int} {x : Int} (m : Nat) (h : x < 0) : up ps m x = x := by
  induction m with
  | zero => rfl
  | succ m ih => rw [up_succ, stp_neg h, ih]
theorem up_nn_of {ps : List Int} {x : Int} {a b : Nat} (hab : a ≤ b) (h : 0 ≤ up ps b x) : 0 ≤ up ps a x := by
  rcases Int.lt_or_le (up ps a x) 0 with h1 | h1
  · have : up ps b x = up ps a x := by rw [show b = (b - a) + a from by omega, up_add, up_neg _ h1]
    omega
  · exact h1

/-- All parents are nodes or -1. -/
def InR (ps : List Int) : Prop := ∀ x : Int, 0 ≤ x → x < ps.length → -1 ≤ rdi ps x ∧ rdi ps x < ps.length
theorem up_range {ps : List Int} (h : InR ps) {x : Int} (hx : -1 ≤ x) (hx' : x < ps.length) (m : Nat) : -1 ≤ up ps m x ∧ up ps m x < ps.length := by
  induction m with
  | zero => exact ⟨hx, hx'⟩
  | succ m ih =>
    rw [up_out]
    rcases Int.lt_or_le (up ps m x) 0 with h1 | h1
    · rw [stp_neg h1]; exact ih
    · rw [stp_nn h1]; exact h _ h1 ih.2

/-- A node from which the parents lead back to it. -/
def Cyc (ps : List Int) (x : Int) : Prop := 0 ≤ x ∧ ∃ m, 0 < m ∧ up ps m x = x
theorem cyc_mul {ps : List Int} {x : Int} {m : Nat} (h : up ps m x = x) (c : Nat) : up ps (c * m) x = x := by
  induction c with
  | zero => rw [Nat.zero_mul]; rfl
  | succ c ih => rw [Nat.succ_mul, up_add, h, ih]
theorem cyc_up_nn {ps : List Int} {x : Int} (h : Cyc ps x) (i : Nat) : 0 ≤ up ps i x := by
  obtain ⟨hx, m, hm, e⟩ := h
  have h1 := cyc_mul e i
  refine up_nn_of (b := i * m) (Nat.le_mul_of_pos_right i hm) ?_
  rw [h1]; exact hx
theorem cyc_up {ps : List Int} {x : Int} (h : Cyc ps x) (i : Nat) : Cyc ps (up ps i x) := by
  refine ⟨cyc_up_nn h i, ?_⟩
  obtain ⟨_, m, hm, e⟩ := h
  exact ⟨m, hm, by rw [← up_add, Nat.add_comm, up_add, e]⟩
/-- On a cycle every later point leads back. -/
theorem cyc_back {ps : List Int} {x : Int} (h : Cyc ps x) (i : Nat) : ∃ j, up ps j (up ps i x) = x := by
  obtain ⟨_, m, hm, e⟩ := h
  have h1 := cyc_mul e i
  have h2 : i ≤ i * m := Nat.le_mul_of_pos_right i hm
  exact ⟨i * m - i, by rw [← up_add, Nat.sub_add_cancel h2, h1]⟩
theorem natAbs_lt {x : Int} {n : Nat} (h0 : 0 ≤ x) (h1 : x < n) : x.toNat < n := by omega
/-- A repetition within the first n steps. -/
theorem up_repeat {ps : List Int} (h : InR ps) {x : Int} (hx : x < ps.length) (hn : ∀ i, i ≤ ps.length → 0 ≤ up ps i x) : ∃ i j, i < j ∧ j ≤ ps.length ∧ up ps i x = up ps j x := by
  have h0 : -1 ≤ x := by have := hn 0 (Nat.zero_le _); simp only [up] at this; omega
  obtain ⟨i, j, hij, hj, e⟩ := pigeon ps.length (fun i => (up ps i x).toNat) (fun i hi => natAbs_lt (hn i hi) (up_range h h0 hx i).2)
  have hi' := hn i (by omega)
  have hj' := hn j hj
  exact ⟨i, j, hij, hj, by have e2 : (up ps i x).toNat = (up ps j x).toNat := e; omega⟩
/-- The way back is no longer than the list. -/
theorem cyc_short {ps : List Int} (h : InR ps) {x : Int} (hx : x < ps.length) (hc : Cyc ps x) : ∃ m, 0 < m ∧ m ≤ ps.length ∧ up ps m x = x := by
  obtain ⟨i, j, hij, hj, e⟩ := up_repeat h hx (fun i _ => cyc_up_nn hc i)
  obtain ⟨b, hb⟩ := cyc_back hc i
  refine ⟨j - i, by omega, by omega, ?_⟩
  have h1 : up ps (b + j) x = x := by rw [up_add, ← e, hb]
  have h2 : up ps (b + i) x = x := by rw [up_add, hb]
  have h3 : b + j = (j - i) + (b + i) := by omega
  rw [h3, up_add, h2] at h1
  exact h1
/-- No cycle: every way ends. -/
theorem ends_of {ps : List Int} (h : InR ps) (hc : ∀ x : Int, 0 ≤ x → x < ps.length → ¬ Cyc ps x) {x : Int} (hx0 : 0 ≤ x) (hx : x < ps.length) : ∃ m, m ≤ ps.length ∧ up ps m x < 0 := by
  by_cases hn : ∃ i, i ≤ ps.length ∧ up ps i x < 0
  · exact hn
  · exfalso
    obtain ⟨i, j, hij, hj, e⟩ := up_repeat h hx (fun i hi => by
      rcases Int.lt_or_le (up ps i x) 0 with h1 | h1
      · exact absurd ⟨i, hi, h1⟩ hn
      · exact h1)
    have h0 : 0 ≤ up ps i x := by
      rcases Int.lt_or_le (up ps i x) 0 with h1 | h1
      · exact absurd ⟨i, by omega, h1⟩ hn
      · exact h1
    refine hc _ h0 (up_range h (by omega) hx i).2 ⟨h0, j - i, by omega, ?_⟩
    rw [← up_add, Nat.sub_add_cancel (by omega)]
    exact e.symm
end Go.Proofs.Ythjcmodhleoocaa.TP
/- TSpec -/
namespace Go.Proofs.Ythjcmodhleoocaa.TP

/-- Node x is y or an ancestor of y. -/
def Sub (ps : List Int) (x y : Nat) : Prop := ∃ m, up ps m (y : Int) = (x : Int)
theorem Sub.refl (ps : List Int) (x : Nat) : Sub ps x x := ⟨0, rfl⟩
theorem Sub.trans {ps : List Int} {x y z : Nat} (h : Sub ps x y) (k : Sub ps y z) : Sub ps x z := by
  obtain ⟨a, ha⟩ := h
  obtain ⟨b, hb⟩ := k
  exact ⟨a + b, by rw [up_add, hb, ha]⟩
/-- A forest: parents in range, no cycle. -/
structure Forest (ps : List Int) : Prop where
  rng : InR ps
  nc : ∀ j : Int, 0 ≤ j → j < ps.length → ¬ Cyc ps j
theorem rdi_nat (ps : List Int) (c : Nat) : rdi ps (c : Int) = ps.getD c 0 := by unfold rdi; rw [Int.toNat_natCast]
theorem mem_kd {ps : List Int} {i c : Nat} : c ∈ kd ps i ↔ c < ps.length ∧ rdi ps (c : Int) = (i : Int) := by unfold kd; rw [mem_kidsOf, rdi_nat]
theorem mem_kids {ps : List Int} {p : Int} {c : Nat} : c ∈ kidsOf ps p ↔ c < ps.length ∧ rdi ps (c : Int) = p := by rw [mem_kidsOf, rdi_nat]
theorem kidsFrom_nodup (ps : List Int) (p : Int) (j : Nat) : (kidsFrom ps p j).Nodup := by
  unfold kidsFrom
  exact List.Pairwise.filter _ (List.nodup_range')
theorem kidsOf_nodup (ps : List Int) (p : Int) : (kidsOf ps p).Nodup := kidsFrom_nodup ps p 0

theorem no_loop {ps : List Int} (hf : Forest ps) {x : Nat} (hx : x < ps.length) {m : Nat} (hm : 0 < m) : up ps m (x : Int) ≠ (x : Int) := fun e =>
  hf.nc x (by omega) (by omega) ⟨by omega, m, hm, e⟩
theorem Sub.anti {ps : List Int} (hf : Forest ps) {x y : Nat} (hx : x < ps.length) (h : Sub ps x y) (k : Sub ps y x) : x = y := by
  obtain ⟨a, ha⟩ := h
  obtain ⟨b, hb⟩ := k
  rcases Nat.eq_zero_or_pos (a + b) with h0 | h0
  · obtain rfl : a = 0 := by omega
    have : (y : Int) = (x : Int) := ha
    omega
  · exact absurd (show up ps (a + b) (x : Int) = x by rw [up_add, hb, ha]) (no_loop hf hx h0)
/-- Siblings (or roots) have no common descendant. -/
theorem sib_disj {ps : List Int} (hf : Forest ps) {p : Int} {c c' x : Nat} (hp : p < ps.length) (hc : rdi ps (c : Int) = p) (hc' : rdi ps (c' : Int) = p) (h : Sub ps c x) (h' : Sub ps c' x) : c = c' := by
  have key : ∀ (c c' : Nat) (a b : Nat), rdi ps (c : Int) = p → rdi ps (c' : Int) = p → up ps a (x : Int) = c → up ps b (x : Int) = c' → a < b → False := by
    intro c c' a b hc hc' ha hb hab
    obtain ⟨e, rfl⟩ : ∃ e, b = (e + 1) + a := ⟨b - a - 1, by omega⟩
    rw [up_add, ha, up_succ, stp_nn (by omega), hc] at hb
    rcases Int.lt_or_le p 0 with h1 | h1
    · rw [up_neg _ h1] at hb; omega
    · have h2 : up ps (e + 1) p = p := by rw [up_out, hb, stp_nn (by omega), hc']
      exact hf.nc p h1 hp ⟨h1, e + 1, by omega, h2⟩
  obtain ⟨a, ha⟩ := h
  obtain ⟨b, hb⟩ := h'
  rcases Nat.lt_trichotomy a b with h | h | h
  · exact (key c c' a b hc hc' ha hb h).elim
  · subst h; rw [ha] at hb; omega
  · exact (key c' c b a hc' hc hb ha h).elim
/-- A node's tree: itself, and its children's trees. -/
theorem sub_kids {ps : List Int} (hf : Forest ps) {i x : Nat} (hx : x < ps.length) : Sub ps i x ↔ x = i ∨ ∃ c, c ∈ kd ps i ∧ Sub ps c x := by
  constructor
  · rintro ⟨m, hm⟩
    cases m with
    | zero => left; have : (x : Int) = (i : Int) := hm; omega
    | succ m =>
      right
      rw [up_out] at hm
      have h0 : 0 ≤ up ps m (x : Int) := by
        rcases Int.lt_or_le (up ps m (x : Int)) 0 with h | h
        · rw [stp_neg h] at hm; omega
        · exact h
      have h1 := (up_range hf.rng (by omega) (by omega : (x : Int) < ps.length) m).2
      rw [stp_nn h0] at hm
      exact ⟨(up ps m (x : Int)).toNat, mem_kd.2 ⟨by omega, by rw [Int.toNat_of_nonneg h0]; exact hm⟩, m, (Int.toNat_of_nonneg h0).symm⟩
  · rintro (rfl | ⟨c, hc, m, hm⟩)
    · exact Sub.refl _ _
    · exact ⟨m + 1, by rw [up_out, hm, stp_nn (by omega)]; exact (mem_kd.1 hc).2⟩
theorem kid_not_sub {ps : List Int} (hf : Forest ps) {i c : Nat} (hi : i < ps.length) (hc : c ∈ kd ps i) : ¬ Sub ps c i := by
  rintro ⟨m, hm⟩
  refine no_loop hf hi (m := m + 1) (by omega) ?_
  rw [up_out, hm, stp_nn (by omega)]
  exact (mem_kd.1 hc).2

/-- How two different nodes' labels stand to each other. -/
def Ord (ps : List Int) (L : List Lab) (x y : Nat) : Prop := ∃ lx ly, L[x]? = some lx ∧ L[y]? = some ly ∧
  ((Sub ps x y ∧ lx.pre < ly.pre ∧ ly.post < lx.post) ∨ (Sub ps y x ∧ ly.pre < lx.pre ∧ lx.post < ly.post) ∨
    (¬ Sub ps x y ∧ ¬ Sub ps y x ∧ ((lx.pre < ly.pre ∧ lx.post < ly.post) ∨ (ly.pre < lx.pre ∧ ly.post < lx.post))))
theorem Ord.symm {ps : List Int} {L : List Lab} {x y : Nat} (h : Ord ps L x y) : Ord ps L y x := by
  obtain ⟨lx, ly, h1, h2, h3⟩ := h
  refine ⟨ly, lx, h2, h1, ?_⟩
  rcases h3 with h | h | ⟨a, b, c⟩
  · exact .inr (.inl h)
  · exact .inl h
  · exact .inr (.inr ⟨b, a, c.symm⟩)

/-- What has been numbered: the nodes of T, by numbers from s on. -/
structure Res (ps : List Int) (T : Nat → Prop) (dp : Nat → Nat → Prop) (s t : NS) : Prop where
  len : t.L.length = s.L.length
  up : Up s t
  out : ∀ x, ¬ T x → t.L[x]? = s.L[x]?
  ins : ∀ x, x < ps.length → T x → ∃ l, t.L[x]? = some l ∧ s.pre ≤ l.pre ∧ l.pre < t.pre ∧ s.post ≤ l.post ∧ l.post < t.post ∧ dp x l.dep
  ord : ∀ x y, x < ps.length → y < ps.length → T x → T y → x ≠ y → Ord ps t.L x y
  onto : ∀ v, s.pre ≤ v → v < t.pre → ∃ x, x < ps.length ∧ T x ∧ ∃ l, t.L[x]? = some l ∧ l.pre = v

/-- Depths: d levels above the trees of cs. -/
def DpL (ps : List Int) (cs : List Nat) (d : Nat) (x : Nat) (e : Nat) : Prop := ∃ c, c ∈ cs ∧ ∃ m, up ps m (x : Int) = (c : Int) ∧ e = d + m
def TL (ps : List Int) (cs : List Nat) (x : Nat) : Prop := ∃ c, c ∈ cs ∧ Sub ps c x

theorem res_nil (ps : List Int) (d : Nat) (s : NS) : Res ps (TL ps []) (DpL ps [] d) s s :=
  ⟨rfl, Up.refl s, fun _ _ => rfl, fun x _ ⟨c, hc, _⟩ => (by cases hc), fun x y _ _ ⟨c, hc, _⟩ => (by cases hc), fun v h1 h2 => by omega⟩

theorem res_cons {ps : List Int} (hf : Forest ps) {p : Int} (hp : p < ps.length) {c : Nat} {cs : List Nat} {d : Nat} {s m t : NS} (hc : rdi ps (c : Int) = p) (hcs : ∀ c' ∈ cs, rdi ps (c' : Int) = p) (hnd : c ∉ cs)
    (h1 : Res ps (TL ps [c]) (DpL ps [c] d) s m) (h2 : Res ps (TL ps cs) (DpL ps cs d) m t) : Res ps (TL ps (c :: cs)) (DpL ps (c :: cs) d) s t := by
  have hdis : ∀ x, Sub ps c x → ¬ TL ps cs x := by
    rintro x hx ⟨c', hc', hx'⟩
    have := sib_disj hf hp hc (hcs c' hc') hx hx'
    subst this
    exact hnd hc'
  have hone : ∀ x, TL ps [c] x ↔ Sub ps c x := fun x => ⟨fun ⟨c', h, h'⟩ => by rw [List.mem_singleton.1 h] at h'; exact h', fun h => ⟨c, List.mem_singleton.2 rfl, h⟩⟩
  have hsplit : ∀ x, TL ps (c :: cs) x ↔ Sub ps c x ∨ TL ps cs x := by
    intro x
    constructor
    · rintro ⟨c', h, h'⟩
      rcases List.mem_cons.1 h with rfl | h
      · exact .inl h'
      · exact .inr ⟨c', h, h'⟩
    · rintro (h | ⟨c', h, h'⟩)
      · exact ⟨c, List.mem_cons_self, h⟩
      · exact ⟨c', List.mem_cons_of_mem _ h, h'⟩
  have hkeep : ∀ x, Sub ps c x → t.L[x]? = m.L[x]? := fun x hx => h2.out x (hdis x hx)
  have u1 := h1.up; have u2 := h2.up
  refine ⟨h2.len.trans h1.len, u1.trans u2, fun x hx => ?_, fun x hx ht => ?_, fun x y hx hy hTx hTy hne => ?_, fun v hv hv' => ?_⟩
  · rw [hsplit] at hx
    rw [h2.out x (fun h => hx (.inr h)), h1.out x (fun h => hx (.inl ((hone x).1 h)))]
  · rw [hsplit] at ht
    rcases ht with h | h
    · obtain ⟨l, a, b, c', e, f, c2, hc2, k, hk, hkd⟩ := h1.ins x hx ((hone x).2 h)
      refine ⟨l, (hkeep x h).trans a, b, by have := u2.2.1; omega, e, by have := u2.2.2.1; omega, c2, ?_, k, hk, hkd⟩
      rw [List.mem_singleton.1 hc2]; exact List.mem_cons_self
    · obtain ⟨l, a, b, c', e, f, c2, hc2, k, hk, hkd⟩ := h2.ins x hx h
      exact ⟨l, a, by have := u1.2.1; omega, c', by have := u1.2.2.1; omega, f, c2, List.mem_cons_of_mem _ hc2, k, hk, hkd⟩
  · rw [hsplit] at hTx hTy
    have mixed : ∀ x y, x < ps.length → y < ps.length → Sub ps c x → TL ps cs y → Ord ps t.L x y := by
      intro x y hx hy h h'
      obtain ⟨lx, a, b, c', e, f, _⟩ := h1.ins x hx ((hone x).2 h)
      obtain ⟨ly, a', b', c'', e', f', _⟩ := h2.ins y hy h'
      refine ⟨lx, ly, (hkeep x h).trans a, a', .inr (.inr ⟨fun hs => hdis y (h.trans hs) h', fun hs => ?_, .inl ⟨by omega, by omega⟩⟩)⟩
      obtain ⟨c2, hc2, hy2⟩ := h'
      exact hdis x h ⟨c2, hc2, hy2.trans hs⟩
    rcases hTx with h | h <;> rcases hTy with h' | h'
    · obtain ⟨lx, ly, a, b, e⟩ := h1.ord x y hx hy ((hone x).2 h) ((hone y).2 h') hne
      exact ⟨lx, ly, (hkeep x h).trans a, (hkeep y h').trans b, e⟩
    · exact mixed x y hx hy h h'
    · exact (mixed y x hy hx h' h).symm
    · exact h2.ord x y hx hy h h' hne
  · rcases Nat.lt_or_ge v m.pre with h | h
    · obtain ⟨x, a, b, l, e, f⟩ := h1.onto v hv h
      exact ⟨x, a, (hsplit x).2 (.inl ((hone x).1 b)), l, (hkeep x ((hone x).1 b)).trans e, f⟩
    · obtain ⟨x, a, b, l, e, f⟩ := h2.onto v h hv'
      exact ⟨x, a, (hsplit x).2 (.inr b), l, e, f⟩

theorem res_node {ps : List Int} (hf : Forest ps) {i d : Nat} (hi : i < ps.length) {s m : NS} (hl : s.L.length = ps.length) (h : Res ps (TL ps (kd ps i)) (DpL ps (kd ps i) (d + 1)) (enter i d s) m) :
    Res ps (TL ps [i]) (DpL ps [i] d) s (leave i m) := by
  have hone : ∀ x, TL ps [i] x ↔ Sub ps i x := fun x => ⟨fun ⟨c', h, h'⟩ => by rw [List.mem_singleton.1 h] at h'; exact h', fun h => ⟨i, List.mem_singleton.2 rfl, h⟩⟩
  have hni : ¬ TL ps (kd ps i) i := by
    rintro ⟨c, hc, hs⟩
    exact kid_not_sub hf hi hc hs
  have hu := h.up
  have e1 : (enter i d s).pre = s.pre + 1 := rfl
  have e2 : (enter i d s).post = s.post := rfl
  have e3 : (leave i m).pre = m.pre := rfl
  have e4 : (leave i m).post = m.post + 1 := rfl
  obtain ⟨x0, hx0⟩ : ∃ x0, s.L[i]? = some x0 := ⟨_, List.getElem?_eq_getElem (by omega)⟩
  have hLi : (leave i m).L[i]? = some { pre := s.pre, post := m.post, dep := d } := by
    have h1 := h.out i hni
    have h2 : (enter i d s).L[i]? = some { x0 with pre := s.pre, dep := d } := by simp [enter, hx0]
    rw [h2] at h1
    simp [leave, h1]
  have hLo : ∀ x, x ≠ i → (leave i m).L[x]? = m.L[x]? := fun x hx => by simp [leave, Ne.symm hx]
  have hEo : ∀ x, x ≠ i → (enter i d s).L[x]? = s.L[x]? := fun x hx => by simp [enter, Ne.symm hx]
  have hcase : ∀ x, x < ps.length → Sub ps i x → x = i ∨ (x ≠ i ∧ TL ps (kd ps i) x) := by
    intro x hx hs
    by_cases e : x = i
    · exact .inl e
    · rcases (sub_kids hf hx).1 hs with e' | h'
      · exact absurd e' e
      · exact .inr ⟨e, h'⟩
  have hup : Up s (leave i m) := by
    obtain ⟨a, b, c, e⟩ := hu
    refine ⟨by rw [leave_len, a, enter_len], by rw [e3]; omega, by rw [e4]; omega, by rw [e3, e4]; omega⟩
  refine ⟨hup.1, hup, fun x hx => ?_, fun x hx ht => ?_, fun x y hx hy hTx hTy hne => ?_, fun v hv hv' => ?_⟩
  · rw [hone] at hx
    have hxi : x ≠ i := fun e => hx (e ▸ Sub.refl ps x)
    have hxk : ¬ TL ps (kd ps i) x := by
      rintro ⟨c, hc, k, hk⟩
      exact hx ⟨k + 1, by rw [up_out, hk, stp_nn (by omega)]; exact (mem_kd.1 hc).2⟩
    rw [hLo x hxi, h.out x hxk, hEo x hxi]
  · rcases hcase x hx ((hone x).1 ht) with rfl | ⟨hxi, hk⟩
    · have := hu.2.1; have := hu.2.2.1
      exact ⟨_, hLi, Nat.le_refl _, by rw [e3]; show s.pre < m.pre; omega, by show s.post ≤ m.post; omega, by rw [e4]; show m.post < m.post + 1; omega, x, List.mem_singleton.2 rfl, 0, rfl, rfl⟩
    · obtain ⟨l, a, b, c', e, f, c2, hc2, k, hk, hkd⟩ := h.ins x hx hk
      refine ⟨l, (hLo x hxi).trans a, by omega, by rw [e3]; exact c', by omega, by rw [e4]; omega, i, List.mem_singleton.2 rfl, k + 1, ?_, by omega⟩
      rw [up_out, hk, stp_nn (by omega)]; exact (mem_kd.1 hc2).2
  · have one : ∀ y, y < ps.length → y ≠ i → TL ps (kd ps i) y → Ord ps (leave i m).L i y := by
      intro y hy hyi hk
      obtain ⟨l, a, b, c', e, f, _⟩ := h.ins y hy hk
      obtain ⟨c, hc, k, hk2⟩ := hk
      exact ⟨_, l, hLi, (hLo y hyi).trans a, .inl ⟨⟨k + 1, by rw [up_out, hk2, stp_nn (by omega)]; exact (mem_kd.1 hc).2⟩, by show s.pre < l.pre; omega, f⟩⟩
    rcases hcase x hx ((hone x).1 hTx) with rfl | ⟨hxi, hk⟩ <;> rcases hcase y hy ((hone y).1 hTy) with rfl | ⟨hyi, hk'⟩
    · exact absurd rfl hne
    · exact one y hy hyi hk'
    · exact (one x hx hxi hk).symm
    · obtain ⟨lx, ly, a, b, e⟩ := h.ord x y hx hy hk hk' hne
      exact ⟨lx, ly, (hLo x hxi).trans a, (hLo y hyi).trans b, e⟩
  · rcases Nat.lt_or_ge s.pre v with h1 | h1
    · obtain ⟨x, a, b, l, e, f⟩ := h.onto v (by omega) (by rw [e3] at hv'; exact hv')
      have hxi : x ≠ i := fun e' => hni (e' ▸ b)
      obtain ⟨c, hc, k, hk2⟩ := b
      exact ⟨x, a, (hone x).2 ⟨k + 1, by rw [up_out, hk2, stp_nn (by omega)]; exact (mem_kd.1 hc).2⟩, l, (hLo x hxi).trans e, f⟩
    · exact ⟨i, hi, (hone i).2 (Sub.refl _ _), _, hLi, by show s.pre = v; omega⟩

/-- How deep a node lies. -/
def HasD (ps : List Int) (x : Int) (d : Nat) : Prop := 0 ≤ up ps d x ∧ up ps (d + 1) x < 0
theorem HasD.uniq {ps : List Int} {x : Int} {a b : Nat} (h : HasD ps x a) (k : HasD ps x b) : a = b := by
  rcases Nat.lt_trichotomy a b with h1 | h1 | h1
  · have := up_nn_of (show a + 1 ≤ b by omega) k.1; have := h.2; omega
  · exact h1
  · have := up_nn_of (show b + 1 ≤ a by omega) h.1; have := k.2; omega
theorem hasD_ex {ps : List Int} (hf : Forest ps) {x : Int} (hx0 : 0 ≤ x) (hx : x < ps.length) : ∃ d, d < ps.length ∧ HasD ps x d := by
  obtain ⟨m, hm, hneg⟩ := ends_of hf.rng hf.nc hx0 hx
  have key : ∀ m, up ps m x < 0 → ∃ d, d < m ∧ HasD ps x d := by
    intro m
    induction m with
    | zero => intro h; have : x < 0 := h; omega
    | succ m ih =>
      intro h
      rcases Int.lt_or_le (up ps m x) 0 with h1 | h1
      · obtain ⟨d, hd, h2⟩ := ih h1; exact ⟨d, by omega, h2⟩
      · exact ⟨m, by omega, h1, h⟩
  obtain ⟨d, hd, h2⟩ := key m hneg
  exact ⟨d, by omega, h2⟩
theorem HasD.kid {ps : List Int} {c : Nat} {i : Int} {d : Nat} (hc : rdi ps (c : Int) = i) (h : HasD ps i d) : HasD ps (c : Int) (d + 1) := by
  have e : stp ps (c : Int) = i := by rw [stp_nn (by omega)]; exact hc
  exact ⟨by rw [up_succ, e]; exact h.1, by rw [up_succ, e]; exact h.2⟩

/-- The numbering of a node's tree ends, and does what it should: enough levels are n less the node's depth. -/
theorem vis_res {ps : List Int} (hf : Forest ps) (k : Nat) : ∀ (i d D : Nat) (s : NS), i < ps.length → HasD ps (i : Int) D → ps.length ≤ D + k → s.L.length = ps.length →
    ∃ t, vis (kd ps) k i d s = some t ∧ Res ps (TL ps [i]) (DpL ps [i] d) s t := by
  induction k with
  | zero =>
    intro i d D s hi hD hk
    obtain ⟨d', hd', h'⟩ := hasD_ex hf (x := (i : Int)) (by omega) (by omega)
    have := hD.uniq h'
    omega
  | succ k ih =>
    intro i d D s hi hD hk hl
    have fold : ∀ (cs : List Nat), cs.Nodup → (∀ c ∈ cs, c ∈ kd ps i) → ∀ (s : NS), s.L.length = ps.length → ∃ t, cs.foldlM (fun s c => vis (kd ps) k c (d + 1) s) s = some t ∧ Res ps (TL ps cs) (DpL ps cs (d + 1)) s t := by
      intro cs
      induction cs with
      | nil => intro _ _ s _; exact ⟨s, rfl, res_nil ps (d + 1) s⟩
      | cons c cs ihc =>
        intro hnd hall s hl
        obtain ⟨hn1, hn2⟩ := List.nodup_cons.1 hnd
        have hck := mem_kd.1 (hall c List.mem_cons_self)
        obtain ⟨m, hm, hr⟩ := ih c (d + 1) (D + 1) s hck.1 (hD.kid hck.2) (by omega) hl
        obtain ⟨t, ht, hr2⟩ := ihc hn2 (fun c' h' => hall c' (List.mem_cons_of_mem _ h')) m (hr.len.trans hl)
        refine ⟨t, ?_, res_cons hf (p := (i : Int)) (by omega) hck.2 (fun c' h' => (mem_kd.1 (hall c' (List.mem_cons_of_mem _ h'))).2) hn1 hr hr2⟩
        rw [List.foldlM_cons, hm]
        exact ht
    obtain ⟨m, hm, hr⟩ := fold (kd ps i) (kidsOf_nodup _ _) (fun c h => h) (enter i d s) (by rw [enter_len]; exact hl)
    refine ⟨leave i m, ?_, res_node hf hi hl hr⟩
    rw [vis, if_pos (by omega), hm]
    rfl
theorem visL_res {ps : List Int} (hf : Forest ps) (k : Nat) (hk : ps.length ≤ k) : ∀ (cs : List Nat), cs.Nodup → (∀ c ∈ cs, c ∈ kidsOf ps (-1)) → ∀ (s : NS), s.L.length = ps.length →
    ∃ t, visL ps k cs 0 s = some t ∧ Res ps (TL ps cs) (DpL ps cs 0) s t := by
  intro cs
  induction cs with
  | nil => intro _ _ s _; exact ⟨s, rfl, res_nil ps 0 s⟩
  | cons c cs ihc =>
    intro hnd hall s hl
    obtain ⟨hn1, hn2⟩ := List.nodup_cons.1 hnd
    have hck := mem_kids.1 (hall c List.mem_cons_self)
    have hD : HasD ps (c : Int) 0 := ⟨by show (0 : Int) ≤ (c : Int); omega, by
      show stp ps (c : Int) < 0
      rw [stp_nn (by omega), hck.2]; omega⟩
    obtain ⟨m, hm, hr⟩ := vis_res hf k c 0 0 s hck.1 hD (by omega) hl
    obtain ⟨t, ht, hr2⟩ := ihc hn2 (fun c' h' => hall c' (List.mem_cons_of_mem _ h')) m (hr.len.trans hl)
    refine ⟨t, ?_, res_cons hf (p := -1) (by omega) hck.2 (fun c' h' => (mem_kids.1 (hall c' (List.mem_cons_of_mem _ h'))).2) hn1 hr hr2⟩
    rw [visL_cons, hm]
    exact ht

/-- The labels of a forest. -/
structure LabOf (ps : List Int) (L : List Lab) : Prop where
  len : L.length = ps.length
  dep : ∀ (x : Nat) (l : Lab), L[x]? = some l → HasD ps (x : Int) l.dep
  rng : ∀ (x : Nat) (l : Lab), L[x]? = some l → l.pre < ps.length ∧ l.post < ps.length
  ord : ∀ x y, x < ps.length → y < ps.length → x ≠ y → Ord ps L x y
  onto : ∀ v, v < ps.length → ∃ (x : Nat) (l : Lab), L[x]? = some l ∧ l.pre = v
theorem root_of {ps : List Int} (hf : Forest ps) {x : Nat} (hx : x < ps.length) : TL ps (kidsOf ps (-1)) x := by
  obtain ⟨d, hd, h1, h2⟩ := hasD_ex hf (x := (x : Int)) (by omega) (by omega)
  have hr := up_range hf.rng (by omega) (by omega : (x : Int) < ps.length) d
  have hr2 := up_range hf.rng (by omega) (by omega : (x : Int) < ps.length) (d + 1)
  rw [up_out, stp_nn h1] at h2 hr2
  exact ⟨(up ps d (x : Int)).toNat, mem_kids.2 ⟨by omega, by rw [Int.toNat_of_nonneg h1]; omega⟩, d, (Int.toNat_of_nonneg h1).symm⟩
/-- The numbering of a forest ends with its labels. -/
theorem num_res {ps : List Int} (hf : Forest ps) (k : Nat) (hk : ps.length ≤ k) : ∃ t, visL ps k (kidsOf ps (-1)) 0 ⟨List.replicate ps.length ⟨0, 0, 0⟩, 0, 0⟩ = some t ∧ t.pre = ps.length ∧ t.post = ps.length ∧ LabOf ps t.L := by
  obtain ⟨t, ht, hr⟩ := visL_res hf k hk (kidsOf ps (-1)) (kidsOf_nodup _ _) (fun c h => h) ⟨List.replicate ps.length ⟨0, 0, 0⟩, 0, 0⟩ (by rw [List.length_replicate])
  have hlen : t.L.length = ps.length := by rw [hr.len, List.length_replicate]
  have hin : ∀ x, x < ps.length → ∃ l, t.L[x]? = some l ∧ l.pre < t.pre ∧ l.post < t.post ∧ DpL ps (kidsOf ps (-1)) 0 x l.dep := fun x hx => by
    obtain ⟨l, a, _, b, _, c, e⟩ := hr.ins x hx (root_of hf hx)
    exact ⟨l, a, b, c, e⟩
  have hup := hr.up
  have hpp : t.pre = t.post := by have := hup.2.2.2; simp only at this; omega
  have h1 : ps.length ≤ t.pre := by
    refine inj_le ps.length t.pre (fun x => ((t.L[x]?).getD ⟨0, 0, 0⟩).pre) (fun x hx => ?_) (fun x y hx hy e => ?_)
    · obtain ⟨l, a, b, _⟩ := hin x hx
      show ((t.L[x]?).getD ⟨0, 0, 0⟩).pre < t.pre
      rw [a]; exact b
    · by_cases hxy : x = y
      · exact hxy
      · exfalso
        obtain ⟨lx, ly, a, b, c⟩ := hr.ord x y hx hy (root_of hf hx) (root_of hf hy) hxy
        have e' : ((t.L[x]?).getD ⟨0, 0, 0⟩).pre = ((t.L[y]?).getD ⟨0, 0, 0⟩).pre := e
        rw [a, b] at e'
        have e2 : lx.pre = ly.pre := e'
        omega
  have h2 : t.pre ≤ ps.length := by
    have hex : ∀ v, ∃ x, v < t.pre → x < ps.length ∧ ∃ l, t.L[x]? = some l ∧ l.pre = v := fun v => by
      by_cases hv : v < t.pre
      · obtain ⟨x, a, _, l, b, c⟩ := hr.onto v (Nat.zero_le _) hv
        exact ⟨x, fun _ => ⟨a, l, b, c⟩⟩
      · exact ⟨0, fun h => absurd h hv⟩
    refine inj_le t.pre ps.length (fun v => Classical.choose (hex v)) (fun v hv => (Classical.choose_spec (hex v) hv).1) (fun v w hv hw e => ?_)
    obtain ⟨_, l, a, b⟩ := Classical.choose_spec (hex v) hv
    obtain ⟨_, l', a', b'⟩ := Classical.choose_spec (hex w) hw
    have e' : Classical.choose (hex v) = Classical.choose (hex w) := e
    rw [e'] at a
    rw [a] at a'
    have : l = l' := Option.some.inj a'
    rw [← b, ← b', this]
  have h3 : t.pre = ps.length := by omega
  refine ⟨t, ht, h3, by omega, hlen, fun x l hl => ?_, fun x l hl => ?_, fun x y hx hy hne => hr.ord x y hx hy (root_of hf hx) (root_of hf hy) hne, fun v hv => ?_⟩
  · have hx : x < ps.length := by have := (List.getElem?_eq_some_iff.1 hl).1; omega
    obtain ⟨l', a, _, _, c, hc, m, hm, e⟩ := hin x hx
    rw [hl] at a
    obtain rfl := Option.some.inj a
    have hck := mem_kids.1 hc
    rw [Nat.zero_add] at e
    rw [e]
    exact ⟨by rw [hm]; omega, by rw [up_out, hm, stp_nn (by omega), hck.2]; omega⟩
  · have hx : x < ps.length := by have := (List.getElem?_eq_some_iff.1 hl).1; omega
    obtain ⟨l', a, b, c, _⟩ := hin x hx
    rw [hl] at a
    obtain rfl := Option.some.inj a
    omega
  · obtain ⟨x, _, _, l, b, c⟩ := hr.onto v (Nat.zero_le _) (by omega)
    exact ⟨x, l, b, c⟩
end Go.Proofs.Ythjcmodhleoocaa.TP
/- EvAid -/
namespace Go.Proofs.Ythjcmodhleoocaa.Q
open Go.RowKit Go.Proofs.YthjcmodhleoocaaW.PrintWords Go.Proofs.YthjcmodhleoocaaW.PrintLast

theorem ev_pos {α : Type} {c : Prop} [Decidable c] {f g : Nat → Option α} {r : α} (h : c) (e : Ev f r) : Ev (fun k => if c then f k else g k) r := Ev.congr (fun _ => if_pos h) e
theorem ev_neg {α : Type} {c : Prop} [Decidable c] {f g : Nat → Option α} {r : α} (h : ¬ c) (e : Ev g r) : Ev (fun k => if c then f k else g k) r := Ev.congr (fun _ => if_neg h) e
theorem ev_some {α β : Type} {a : α} {f : Nat → α → Option β} {r : β} (e : Ev (fun k => f k a) r) : Ev (fun k => (some a).bind (f k)) r := e
theorem ev_now {α : Type} {r r' : α} (h : r = r') : Ev (fun _ => some r) r' := by subst h; exact Ev.now r
theorem ev_eq {α : Type} {f : Nat → Option α} {r r' : α} (e : Ev f r) (h : r = r') : Ev f r' := h ▸ e
theorem wrap_up (i : Nat) (h : i ≤ 4611686018427387904) : wrap64 ((i : Int) + 1) = ((i + 1 : Nat) : Int) := by
  unfold wrap64; omega
theorem wrap_in (x : Int) (h0 : -4611686018427387904 ≤ x) (h : x ≤ 4611686018427387904) : wrap64 x = x := by
  unfold wrap64; omega
theorem rd_rdi (ps : List Int) (x : Int) : rd ps x = TP.rdi ps x := rfl
theorem rd_set_same {xs : List Int} {i v : Int} (h0 : 0 ≤ i) (h : i < xs.length) : rd (xs.set i.toNat v) i = v := by
  unfold rd
  rw [List.getD_eq_getElem?_getD, List.getElem?_set_self (by omega)]; rfl
theorem rd_set_ne {xs : List Int} {i j v : Int} (h0 : 0 ≤ i) (hj : 0 ≤ j) (h : i ≠ j) : rd (xs.set i.toNat v) j = rd xs j := by
  unfold rd
  rw [List.getD_eq_getElem?_getD, List.getElem?_set_ne (by omega), ← List.getD_eq_getElem?_getD]
theorem rd_replicate {n : Nat} {i v : Int} (h0 : 0 ≤ i) (h : i < n) : rd (List.replicate n v) i = v := by
  unfold rd
  rw [List.getD_eq_getElem?_getD, List.getElem?_replicate, if_pos (by omega)]; rfl
end Go.Proofs.Ythjcmodhleoocaa.Q
/- CheckLaw -/
namespace Go.Proofs.Ythjcmodhleoocaa.Q
open Go.RowKit Go.Proofs.YthjcmodhleoocaaW.PrintWords Go.Proofs.YthjcmodhleoocaaW.PrintLast
open Go.Proofs.Ythjcmodhleoocaa.TP

/-- The answer of a check of parents: (index, error). -/
def ChkR (ps : List Int) (r : Int × Int) : Prop :=
  (4096 < ps.length ∧ r = (0, 2)) ∨
  (ps.length ≤ 4096 ∧ ∃ i : Nat, i < ps.length ∧ (rdi ps i < -1 ∨ (ps.length : Int) ≤ rdi ps i) ∧ (∀ j : Nat, j < i → -1 ≤ rdi ps j ∧ rdi ps j < ps.length) ∧ r = ((i : Int), 8)) ∨
  (ps.length ≤ 4096 ∧ InR ps ∧ ∃ i : Int, i < ps.length ∧ Cyc ps i ∧ (∀ j : Int, j < ps.length → Cyc ps j → i ≤ j) ∧ r = (i, 12)) ∨
  (ps.length ≤ 4096 ∧ InR ps ∧ (∀ j : Int, 0 ≤ j → j < ps.length → ¬ Cyc ps j) ∧ r = (0, 0))
theorem ChkR.uniq {ps : List Int} {r r' : Int × Int} (h : ChkR ps r) (h' : ChkR ps r') : r = r' := by
  rcases h with ⟨a, rfl⟩ | ⟨a, i, hi, hb, hl, rfl⟩ | ⟨a, hr, i, hi, hc, hl, rfl⟩ | ⟨a, hr, hn, rfl⟩ <;> rcases h' with ⟨a', rfl⟩ | ⟨a', i', hi', hb', hl', rfl⟩ | ⟨a', hr', i', hi', hc', hl', rfl⟩ | ⟨a', hr', hn', rfl⟩
  · rfl
  · omega
  · omega
  · omega
  · omega
  · have h1 : ¬ i < i' := fun h => by have := hl' i h; omega
    have h2 : ¬ i' < i := fun h => by have := hl i' h; omega
    have : i = i' := by omega
    rw [this]
  · have := hr' i (by omega) (by omega); omega
  · have := hr' i (by omega) (by omega); omega
  · omega
  · have := hr i' (by omega) (by omega); omega
  · have h1 := hl i' hi' hc'
    have h2 := hl' i hi hc
    have : i = i' := by omega
    rw [this]
  · exact absurd hc (hn' i hc.1 hi)
  · omega
  · have := hr i' (by omega) (by omega); omega
  · exact absurd hc' (hn i' hc'.1 hi')
  · rfl
theorem inR_of {ps : List Int} (h : ∀ j : Nat, j < ps.length → -1 ≤ rdi ps j ∧ rdi ps j < ps.length) : InR ps := by
  intro x hx hx'
  have := h x.toNat (by omega)
  rwa [Int.toNat_of_nonneg hx] at this

/-- What is known between two walks: every visited node's way up is visited, and the least node on a cycle so far. -/
structure Seen (ps : List Int) (i : Nat) (seen : List Int) (least : Int) : Prop where
  len : seen.length = ps.length
  num : ∀ v : Int, 0 ≤ v → v < ps.length → 0 ≤ rd seen v ∧ rd seen v ≤ i
  closed : ∀ v : Int, 0 ≤ v → v < ps.length → rd seen v ≠ 0 → stp ps v < 0 ∨ rd seen (stp ps v) ≠ 0
  all : ∀ v : Int, 0 ≤ v → v < i → rd seen v ≠ 0
  least : (least = -1 ∧ ∀ v : Int, 0 ≤ v → v < ps.length → rd seen v ≠ 0 → ¬ Cyc ps v) ∨
    (0 ≤ least ∧ least < ps.length ∧ Cyc ps least ∧ ∀ v : Int, 0 ≤ v → v < ps.length → rd seen v ≠ 0 → Cyc ps v → least ≤ v)
theorem Seen.up {ps : List Int} {i : Nat} {seen : List Int} {least : Int} (h : Seen ps i seen least) (hr : InR ps) {v : Int} (hv : 0 ≤ v) (hv' : v < ps.length) (hs : rd seen v ≠ 0) (m : Nat) (hm : 0 ≤ TP.up ps m v) : rd seen (TP.up ps m v) ≠ 0 := by
  induction m with
  | zero => exact hs
  | succ m ih =>
    have h0 : 0 ≤ TP.up ps m v := up_nn_of (Nat.le_succ m) hm
    have h1 := ih h0
    rcases h.closed _ h0 (up_range hr (by omega) hv' m).2 h1 with h2 | h2
    · rw [up_out] at hm; omega
    · rw [up_out]; exact h2

/-- A walk from i has come t steps; seen0: what was seen before it. -/
structure Walk (ps : List Int) (i : Nat) (seen0 seen : List Int) (t : Nat) : Prop where
  len : seen.length = ps.length
  new : ∀ s, s < t → 0 ≤ TP.up ps s i ∧ rd seen0 (TP.up ps s i) = 0 ∧ rd seen (TP.up ps s i) = (i : Int) + 1
  old : ∀ v : Int, 0 ≤ v → v < ps.length → (∀ s, s < t → TP.up ps s i ≠ v) → rd seen v = rd seen0 v
  inj : ∀ s s', s < t → s' < s → TP.up ps s' i ≠ TP.up ps s i

theorem Walk.cases {ps : List Int} {i : Nat} {seen0 seen : List Int} {t : Nat} (h : Walk ps i seen0 seen t) {v : Int} (hv : 0 ≤ v) (hv' : v < ps.length) : (∃ s, s < t ∧ TP.up ps s i = v) ∨ rd seen v = rd seen0 v := by
  by_cases e : ∃ s, s < t ∧ TP.up ps s i = v
  · exact .inl e
  · exact .inr (h.old v hv hv' (fun s hs he => e ⟨s, hs, he⟩))
theorem Walk.start {ps : List Int} {i : Nat} {seen0 : List Int} (h : seen0.length = ps.length) : Walk ps i seen0 seen0 0 :=
  ⟨h, fun _ hs => absurd hs (Nat.not_lt_zero _), fun _ _ _ _ => rfl, fun _ _ hs => absurd hs (Nat.not_lt_zero _)⟩
theorem Walk.next {ps : List Int} {i : Nat} {seen0 seen : List Int} {t : Nat} (hr : InR ps) (hi : i < ps.length) (h : Walk ps i seen0 seen t) (h0 : 0 ≤ TP.up ps t i) (hz : rd seen (TP.up ps t i) = 0) :
    Walk ps i seen0 (seen.set (TP.up ps t i).toNat ((i : Int) + 1)) (t + 1) := by
  have hlt : TP.up ps t i < ps.length := (up_range hr (by omega) (by omega) t).2
  have hnew : ∀ s, s < t → TP.up ps s i ≠ TP.up ps t i := fun s hs e => by
    have := (h.new s hs).2.2
    rw [e, hz] at this
    omega
  refine ⟨by rw [List.length_set]; exact h.len, fun s hs => ?_, fun v hv hv' hne => ?_, fun s s' hs hs' => ?_⟩
  · rcases Nat.lt_or_ge s t with h1 | h1
    · have h2 := h.new s h1
      exact ⟨h2.1, h2.2.1, by rw [rd_set_ne h0 h2.1 (hnew s h1).symm]; exact h2.2.2⟩
    · obtain rfl : s = t := by omega
      refine ⟨h0, ?_, rd_set_same h0 (by rw [h.len]; exact hlt)⟩
      rw [← h.old _ h0 hlt hnew]; exact hz
  · rw [rd_set_ne h0 hv (hne t (by omega))]
    exact h.old v hv hv' (fun s hs => hne s (by omega))
  · rcases Nat.lt_or_ge s t with h1 | h1
    · exact h.inj s s' h1 hs'
    · obtain rfl : s = t := by omega
      exact hnew s' hs'
/-- A walk comes no further than there are nodes. -/
theorem Walk.short {ps : List Int} {i : Nat} {seen0 seen : List Int} {t : Nat} (hr : InR ps) (hi : i < ps.length) (h : Walk ps i seen0 seen t) : t ≤ ps.length := by
  refine inj_le t ps.length (fun s => (TP.up ps s i).toNat) (fun s hs => ?_) (fun a b ha hb e => ?_)
  · exact natAbs_lt (h.new s hs).1 (up_range hr (by omega) (by omega) s).2
  · have h1 := (h.new a ha).1
    have h2 := (h.new b hb).1
    have e' : TP.up ps a i = TP.up ps b i := by
      have e2 : (TP.up ps a i).toNat = (TP.up ps b i).toNat := e
      omega
    rcases Nat.lt_trichotomy a b with h3 | h3 | h3
    · exact absurd e' (h.inj b a hb h3)
    · exact h3
    · exact absurd e'.symm (h.inj a b ha h3)
/-- The walk has ended: what is seen now is closed, and node i is seen. -/
theorem Walk.closes {ps : List Int} {i : Nat} {seen0 seen : List Int} {t : Nat} {least : Int} (hr : InR ps) (hi : i < ps.length) (hs : Seen ps i seen0 least) (h : Walk ps i seen0 seen t) (hend : TP.up ps t i < 0 ∨ rd seen (TP.up ps t i) ≠ 0) :
    (∀ v : Int, 0 ≤ v → v < ps.length → 0 ≤ rd seen v ∧ rd seen v ≤ (i + 1 : Nat)) ∧ (∀ v : Int, 0 ≤ v → v < ps.length → rd seen v ≠ 0 → stp ps v < 0 ∨ rd seen (stp ps v) ≠ 0) ∧ (∀ v : Int, 0 ≤ v → v < (i + 1 : Nat) → rd seen v ≠ 0) := by
  have hold : ∀ v : Int, 0 ≤ v → v < ps.length → rd seen0 v ≠ 0 → rd seen v ≠ 0 := fun v hv hv' hn => by
    rcases h.cases hv hv' with ⟨s, hs1, e⟩ | e
    · have h2 := h.new s hs1
      rw [e] at h2; omega
    · rw [e]; exact hn
  refine ⟨fun v hv hv' => ?_, fun v hv hv' hn => ?_, fun v hv hv' => ?_⟩
  · rcases h.cases hv hv' with ⟨s, hs1, e⟩ | e
    · have h2 := h.new s hs1
      rw [e] at h2; omega
    · have := hs.num v hv hv'
      rw [e]; omega
  · rcases h.cases hv hv' with ⟨s, hs1, e⟩ | e
    · subst e
      rw [← up_out]
      rcases Nat.lt_or_ge (s + 1) t with h1 | h1
      · right; have := (h.new _ h1).2.2; omega
      · obtain rfl : s + 1 = t := by omega
        exact hend
    · rw [e] at hn
      rcases hs.closed v hv hv' hn with h1 | h1
      · exact .inl h1
      · have h2 : 0 ≤ stp ps v ∨ stp ps v < 0 := by omega
        rcases h2 with h2 | h2
        · right
          refine hold _ h2 ?_ h1
          rw [stp_nn hv]; exact (hr v hv hv').2
        · exact .inl h2
  · rcases Int.lt_or_le v i with h1 | h1
    · exact hold v hv (by omega) (hs.all v hv h1)
    · obtain rfl : v = i := by omega
      rcases Nat.eq_zero_or_pos t with h2 | h2
      · subst h2
        rcases hend with h3 | h3
        · simp only [TP.up] at h3; omega
        · exact h3
      · have := (h.new 0 h2).2.2
        simp only [TP.up] at this
        omega

/-- The walk ended outside, or at what was seen before: it met no cycle. -/
theorem Walk.plain {ps : List Int} {i : Nat} {seen0 seen : List Int} {t : Nat} {least : Int} (hr : InR ps) (hi : i < ps.length) (hs : Seen ps i seen0 least) (h : Walk ps i seen0 seen t)
    (hend : TP.up ps t i < 0 ∨ rd seen0 (TP.up ps t i) ≠ 0) : ∀ s, s < t → ¬ Cyc ps (TP.up ps s i) := by
  intro s hst hc
  have hcr : ∀ m, 0 ≤ TP.up ps (m + s) i := fun m => by rw [up_add]; exact cyc_up_nn hc m
  have ht0 : 0 ≤ TP.up ps t i := by have := hcr (t - s); rwa [Nat.sub_add_cancel (by omega)] at this
  rcases hend with h1 | h1
  · omega
  · obtain ⟨j, hj⟩ := cyc_back hc (t - s)
    rw [← up_add ps (t - s) s, Nat.sub_add_cancel (by omega)] at hj
    have h2 := hs.up hr ht0 (up_range hr (by omega) (by omega) t).2 h1 j (by rw [hj]; exact hc.1)
    rw [hj] at h2
    exact h2 (h.new s hst).2.1
theorem Walk.seen_plain {ps : List Int} {i : Nat} {seen0 seen : List Int} {t : Nat} {least : Int} (hr : InR ps) (hi : i < ps.length) (hs : Seen ps i seen0 least) (h : Walk ps i seen0 seen t)
    (hend : TP.up ps t i < 0 ∨ rd seen0 (TP.up ps t i) ≠ 0) : Seen ps (i + 1) seen least := by
  have hend' : TP.up ps t i < 0 ∨ rd seen (TP.up ps t i) ≠ 0 := by
    rcases hend with h1 | h1
    · exact .inl h1
    · rcases Int.lt_or_le (TP.up ps t i) 0 with h2 | h2
      · exact .inl h2
      · right
        rcases h.cases h2 (up_range hr (by omega) (by omega) t).2 with ⟨s, hs1, e⟩ | e
        · have := (h.new s hs1).2.2; rw [e] at this; omega
        · rw [e]; exact h1
  obtain ⟨h1, h2, h3⟩ := h.closes hr hi hs hend'
  refine ⟨h.len, h1, h2, h3, ?_⟩
  have hnc := h.plain hr hi hs hend
  rcases hs.least with ⟨e, hl⟩ | ⟨h4, h5, h6, hl⟩
  · refine .inl ⟨e, fun v hv hv' hn => ?_⟩
    rcases h.cases hv hv' with ⟨s, hs1, e⟩ | e
    · rw [← e]; exact hnc s hs1
    · rw [e] at hn; exact hl v hv hv' hn
  · refine .inr ⟨h4, h5, h6, fun v hv hv' hn hc => ?_⟩
    rcases h.cases hv hv' with ⟨s, hs1, e⟩ | e
    · rw [← e] at hc; exact absurd hc (hnc s hs1)
    · rw [e] at hn; exact hl v hv hv' hn hc
/-- The walk came back to a point of its own: the nodes on a cycle among the new ones are those that follow that point. -/
theorem Walk.ring {ps : List Int} {i : Nat} {seen0 seen : List Int} {t a : Nat} (h : Walk ps i seen0 seen t) (ha : a < t) (hback : TP.up ps t i = TP.up ps a i) :
    Cyc ps (TP.up ps a i) ∧ ∀ s, s < t → Cyc ps (TP.up ps s i) → ∃ m, m < t - a ∧ TP.up ps m (TP.up ps a i) = TP.up ps s i := by
  have hper : TP.up ps (t - a) (TP.up ps a i) = TP.up ps a i := by rw [← up_add, Nat.sub_add_cancel (by omega)]; exact hback
  refine ⟨⟨(h.new a ha).1, t - a, by omega, hper⟩, fun s hs hc => ?_⟩
  rcases Nat.lt_or_ge s a with h1 | h1
  · exfalso
    -- the cycle of up s i passes through up a i, whose ring stays within the later points
    obtain ⟨j, hj⟩ := cyc_back hc (a - s)
    rw [← up_add ps (a - s) s, Nat.sub_add_cancel (by omega)] at hj
    have hmod : TP.up ps j (TP.up ps a i) = TP.up ps (j % (t - a)) (TP.up ps a i) := by
      have e : j = j % (t - a) + (j / (t - a)) * (t - a) := by have := Nat.mod_add_div j (t - a); rw [Nat.mul_comm] at this; omega
      rw [e, up_add, cyc_mul hper]
      congr 1
      rw [Nat.add_mul_mod_self_right, Nat.mod_mod]
    have hlt : j % (t - a) < t - a := Nat.mod_lt _ (by omega)
    rw [hmod, ← up_add] at hj
    exact h.inj (j % (t - a) + a) s (by omega) (by omega) hj.symm
  · exact ⟨s - a, by omega, by rw [← up_add, Nat.sub_add_cancel h1]⟩
theorem Walk.seen_ring {ps : List Int} {i : Nat} {seen0 seen : List Int} {t a : Nat} {least least' : Int} (hr : InR ps) (hi : i < ps.length) (hs : Seen ps i seen0 least) (h : Walk ps i seen0 seen t) (ha : a < t) (hback : TP.up ps t i = TP.up ps a i)
    (hle : ∃ p, 0 < p ∧ TP.up ps p (TP.up ps a i) = TP.up ps a i ∧ (∀ m, m < p → least' ≤ TP.up ps m (TP.up ps a i)) ∧ (least = -1 ∨ least' ≤ least) ∧ ((least' = least ∧ least ≠ -1) ∨ ∃ m, least' = TP.up ps m (TP.up ps a i))) : Seen ps (i + 1) seen least' := by
  obtain ⟨hc, hring⟩ := h.ring ha hback
  obtain ⟨p, hp, hper, hall, hmin, hfrom⟩ := hle
  have ha0 := h.new a ha
  have hend' : TP.up ps t i < 0 ∨ rd seen (TP.up ps t i) ≠ 0 := .inr (by rw [hback, ha0.2.2]; omega)
  obtain ⟨h1, h2, h3⟩ := h.closes hr hi hs hend'
  have hax : TP.up ps a i < ps.length := (up_range hr (by omega) (by omega) a).2
  have hall' : ∀ m, least' ≤ TP.up ps m (TP.up ps a i) := fun m => by
    have e : m = m % p + (m / p) * p := by have := Nat.mod_add_div m p; rw [Nat.mul_comm] at this; omega
    rw [e, up_add, cyc_mul hper]
    have : m % p + m / p * p = m := e.symm
    refine hall (m % p) (Nat.mod_lt _ hp)
  have hnew : ∀ v : Int, 0 ≤ v → v < ps.length → rd seen v ≠ 0 → Cyc ps v → least' ≤ v := fun v hv hv' hn hcv => by
    rcases h.cases hv hv' with ⟨s, hs1, e⟩ | e
    · rw [← e] at hcv ⊢
      obtain ⟨m, _, hm⟩ := hring s hs1 hcv
      rw [← hm]; exact hall' m
    · rw [e] at hn
      rcases hs.least with ⟨e1, hl⟩ | ⟨h4, h5, h6, hl⟩
      · exact absurd hcv (hl v hv hv' hn)
      · have := hl v hv hv' hn hcv
        rcases hmin with h7 | h7 <;> omega
  refine ⟨h.len, h1, h2, h3, .inr ?_⟩
  rcases hfrom with ⟨e, hne⟩ | ⟨m, e⟩
  · subst e
    rcases hs.least with ⟨e1, _⟩ | ⟨h4, h5, h6, _⟩
    · exact absurd e1 hne
    · exact ⟨h4, h5, h6, hnew⟩
  · subst e
    exact ⟨cyc_up_nn hc m, (up_range hr (by omega) hax m).2, cyc_up hc m, hnew⟩

/-- The shortest way round. -/
theorem least_period {ps : List Int} {x : Int} (h : Cyc ps x) : ∃ p, 0 < p ∧ TP.up ps p x = x ∧ ∀ m, 0 < m → m < p → TP.up ps m x ≠ x := by
  obtain ⟨_, m, hm, e⟩ := h
  have key : ∀ m, 0 < m → TP.up ps m x = x → ∃ p, 0 < p ∧ TP.up ps p x = x ∧ ∀ j, 0 < j → j < p → TP.up ps j x ≠ x := by
    intro m
    induction m using Nat.strongRecOn with
    | _ m ih =>
      intro hm e
      by_cases hx : ∃ j, 0 < j ∧ j < m ∧ TP.up ps j x = x
      · obtain ⟨j, h1, h2, h3⟩ := hx
        exact ih j h2 h1 h3
      · exact ⟨m, hm, e, fun j h1 h2 h3 => hx ⟨j, h1, h2, h3⟩⟩
  exact key m hm e
end Go.Proofs.Ythjcmodhleoocaa.Q
/- NumEv -/
namespace Go.Proofs.Ythjcmodhleoocaa.Q
open Go.RowKit Go.Proofs.YthjcmodhleoocaaW.PrintWords Go.Proofs.YthjcmodhleoocaaW.PrintLast
open Go.Proofs.Ythjcmodhleoocaa.TP
theorem ev_uniq {α : Type} {g : Nat → Option α} {r r' : α} (h : Ev g r) (h' : Ev g r') : r = r' := by
  obtain ⟨K, hK⟩ := h
  obtain ⟨K', hK'⟩ := h'
  have h1 := hK (max K K') (Nat.le_max_left _ _)
  have h2 := hK' (max K K') (Nat.le_max_right _ _)
  rw [h1] at h2
  exact Option.some.inj h2
/-- The labels: with enough levels. -/
def HasNum (ps : List Int) (L : List Lab) : Prop := Ev (fun k => numL k ps) L
theorem HasNum.uniq {ps : List Int} {L L' : List Lab} (h : HasNum ps L) (h' : HasNum ps L') : L = L' := ev_uniq h h'
theorem num_ev {ps : List Int} (hn : ps.length ≤ 4096) (hf : Forest ps) : ∃ t, visL ps (lim ps.length) (kidsOf ps (-1)) 0 (blank ps.length) = some t ∧ t.pre ≤ 1000000 ∧ t.post ≤ 1000000 ∧ LabOf ps t.L ∧ HasNum ps t.L := by
  obtain ⟨t, ht, hp, hq, hL⟩ := num_res hf ps.length (Nat.le_refl _)
  have hl : lim ps.length = ps.length := lim_of (by omega)
  have ht' : visL ps (lim ps.length) (kidsOf ps (-1)) 0 (blank ps.length) = some t := by rw [hl]; exact ht
  exact ⟨t, ht', by omega, by omega, hL, Ev.of (fun k => numL_mono k ps) (numL_of (by omega) ht' (by omega) (by omega))⟩
theorem HasNum.lab {ps : List Int} {L : List Lab} (hn : ps.length ≤ 4096) (hf : Forest ps) (h : HasNum ps L) : LabOf ps L := by
  obtain ⟨t, _, _, _, h1, h2⟩ := num_ev hn hf
  rw [h.uniq h2]; exact h1
/-- A check that says OK: a forest. -/
theorem ChkR.forest {ps : List Int} {r : Int × Int} (h : ChkR ps r) (h0 : r.2 = 0) : ps.length ≤ 4096 ∧ Forest ps ∧ r.1 = 0 := by
  rcases h with ⟨a, rfl⟩ | ⟨a, i, hi, hb, hl, rfl⟩ | ⟨a, hr, i, hi, hc, hl, rfl⟩ | ⟨a, hr, hn, rfl⟩
  · cases h0
  · cases h0
  · cases h0
  · exact ⟨a, ⟨hr, hn⟩, rfl⟩
theorem ChkR.of_forest {ps : List Int} {r : Int × Int} (h : ChkR ps r) (hn : ps.length ≤ 4096) (hf : Forest ps) : r = (0, 0) := h.uniq (.inr (.inr (.inr ⟨hn, hf.rng, hf.nc, rfl⟩)))
theorem ChkR.cases {ps : List Int} {r : Int × Int} (h : ChkR ps r) : (r.2 = 0 ∧ r.1 = 0 ∧ ps.length ≤ 4096 ∧ Forest ps) ∨ (r.2 ≠ 0 ∧ ¬ (ps.length ≤ 4096 ∧ Forest ps)) := by
  by_cases h0 : r.2 = 0
  · obtain ⟨a, b, c⟩ := h.forest h0
    exact .inl ⟨h0, c, a, b⟩
  · refine .inr ⟨h0, fun hx => h0 ?_⟩
    rw [h.of_forest hx.1 hx.2]
end Go.Proofs.Ythjcmodhleoocaa.Q
/- CheckEv -/
namespace Go.Proofs.Ythjcmodhleoocaa.Q
open Go.RowKit Go.Proofs.YthjcmodhleoocaaW.PrintWords Go.Proofs.YthjcmodhleoocaaW.PrintLast
open Go.Proofs.Ythjcmodhleoocaa.TP

section
variable {ps : List Int}
/-- The loop around a cycle. -/
theorem chk_ring (hn : ps.length ≤ 4096) (hr : InR ps) {i : Nat} (hi : i < ps.length) {at_ : Int} {seen : List Int} {least : Int} {p : Nat} (hl0 : -1 ≤ least) (hat : 0 ≤ at_) (hat' : at_ < ps.length) (hp : 0 < p) (hper : TP.up ps p at_ = at_) (hmin : ∀ m, 0 < m → m < p → TP.up ps m at_ ≠ at_) (hcy : ∀ m, 0 ≤ TP.up ps m at_)
    (next : ∀ least', -1 ≤ least' → (∀ m, m < p → least' ≤ TP.up ps m at_) → (least = -1 ∨ least' ≤ least) → ((least' = least ∧ least ≠ -1) ∨ ∃ m, least' = TP.up ps m at_) → ∃ r, ChkR ps r ∧ Ev (fun k => treelabel_check.l1 k ps seen least' (ps.length : Int) (wrap64 ((i : Int) + 1))) r) (d : Nat) :
    ∀ (m : Nat) (lm : Int), m + d = p → -1 ≤ lm → (∀ j, j < m → lm ≤ TP.up ps j at_) → (least = -1 ∨ lm ≤ least) → (lm = least ∨ ∃ j, lm = TP.up ps j at_) → (0 < m → 0 ≤ lm) →
      ∃ r, ChkR ps r ∧ Ev (fun k => treelabel_check.l3 k ps seen lm at_ (TP.up ps m at_) (decide (m = 0)) (ps.length : Int) (i : Int)) r := by
  induction d with
  | zero =>
    intro m lm hm h0 hall hle hfrom hpos
    obtain rfl : m = p := by omega
    obtain ⟨r, hc, he⟩ := next lm h0 hall hle (by
      rcases hfrom with e | e
      · by_cases hl : least = -1
        · have := hpos hp; omega
        · exact .inl ⟨e, hl⟩
      · exact .inr e)
    refine ⟨r, hc, ?_⟩
    rw [hper, decide_eq_false (by omega)]
    refine Ev.step (fun k => by rw [treelabel_check.l3]) ?_
    refine ev_neg (by decide) ?_
    rw [show (at_ != at_) = false from by simp]
    refine Ev.step (fun k => by rw [treelabel_check.j6]) ?_
    exact ev_neg (by decide) he
  | succ d ih =>
    intro m lm hm h0 hall hle hfrom hpos
    have hx := hcy m
    have hx' : TP.up ps m at_ < ps.length := (up_range hr (by omega) hat' m).2
    have hnext : rd ps (TP.up ps m at_) = TP.up ps (m + 1) at_ := by rw [up_out, stp_nn hx]; rfl
    have go : ∀ lm', -1 ≤ lm' → (∀ j, j < m + 1 → lm' ≤ TP.up ps j at_) → (least = -1 ∨ lm' ≤ least) → (lm' = least ∨ ∃ j, lm' = TP.up ps j at_) → 0 ≤ lm' →
        ∃ r, ChkR ps r ∧ Ev (fun k => treelabel_check.l3 k ps seen lm' at_ (rd ps (TP.up ps m at_)) false (ps.length : Int) (i : Int)) r := fun lm' a b c e f => by
      obtain ⟨r, hc, he⟩ := ih (m + 1) lm' (by omega) a b c e (fun _ => f)
      rw [decide_eq_false (by omega)] at he
      exact ⟨r, hc, by rw [hnext]; exact he⟩
    have body : ∃ r, ChkR ps r ∧ Ev (fun k => treelabel_check.j6 k ps seen lm at_ (TP.up ps m at_) (ps.length : Int) (i : Int) true) r := by
      by_cases hneg : lm < 0
      · have hlm : lm = -1 := by omega
        have hm0 : m = 0 := by
          rcases Nat.eq_zero_or_pos m with h | h
          · exact h
          · have := hpos h; omega
        have hl1 : least = -1 := by
          rcases hle with h | h
          · exact h
          · rcases hfrom with h2 | ⟨j, h2⟩
            · omega
            · have := hcy j; omega
        obtain ⟨r, hc, he⟩ := go (TP.up ps m at_) (by omega) (fun j hj => by
          obtain rfl : j = m := by omega
          exact Int.le_refl _) (.inl hl1) (.inr ⟨m, rfl⟩) hx
        refine ⟨r, hc, Ev.step (fun k => by rw [treelabel_check.j6]) ?_⟩
        exact ev_pos rfl (ev_pos hneg (ev_pos hx (ev_pos hx' he)))
      · by_cases hlt : TP.up ps m at_ < lm
        · obtain ⟨r, hc, he⟩ := go (TP.up ps m at_) (by omega) (fun j hj => by
            rcases Nat.lt_or_ge j m with h | h
            · have := hall j h; omega
            · obtain rfl : j = m := by omega
              omega) (by rcases hle with h | h; exact .inl h; exact .inr (by omega)) (.inr ⟨m, rfl⟩) hx
          refine ⟨r, hc, Ev.step (fun k => by rw [treelabel_check.j6]) ?_⟩
          exact ev_pos rfl (ev_neg hneg (ev_pos hlt (ev_pos hx (ev_pos hx' he))))
        · obtain ⟨r, hc, he⟩ := go lm h0 (fun j hj => by
            rcases Nat.lt_or_ge j m with h | h
            · exact hall j h
            · obtain rfl : j = m := by omega
              omega) hle hfrom (by omega)
          refine ⟨r, hc, Ev.step (fun k => by rw [treelabel_check.j6]) ?_⟩
          exact ev_pos rfl (ev_neg hneg (ev_neg hlt (ev_pos hx (ev_pos hx' he))))
    obtain ⟨r, hc, he⟩ := body
    refine ⟨r, hc, Ev.step (fun k => by rw [treelabel_check.l3]) ?_⟩
    by_cases hm0 : m = 0
    · exact ev_pos (by simp [hm0]) he
    · refine ev_neg (by simp [hm0]) ?_
      rw [show (TP.up ps m at_ != at_) = true from by rw [bne_iff_ne]; exact hmin m (by omega) (by omega)]
      exact he

/-- The walk from a node, and what follows. -/
theorem chk_walk (hn : ps.length ≤ 4096) (hr : InR ps) {i : Nat} (hi : i < ps.length) {seen0 : List Int} {least : Int} (hs : Seen ps i seen0 least)
    (next : ∀ seen least', Seen ps (i + 1) seen least' → ∃ r, ChkR ps r ∧ Ev (fun k => treelabel_check.l1 k ps seen least' (ps.length : Int) (wrap64 ((i : Int) + 1))) r) (d : Nat) :
    ∀ (t : Nat) (seen : List Int), t + d = ps.length → Walk ps i seen0 seen t →
      ∃ r, ChkR ps r ∧ Ev (fun k => treelabel_check.l2 k ps seen least (i : Int) (TP.up ps t i) (ps.length : Int) (i : Int)) r := by
  have hw : wrap64 ((i : Int) + 1) = (i : Int) + 1 := wrap_in _ (by omega) (by omega)
  -- behind the walk
  have tail : ∀ (t : Nat) (seen : List Int), Walk ps i seen0 seen t → (TP.up ps t i < 0 ∨ rd seen (TP.up ps t i) ≠ 0) →
      ∃ r, ChkR ps r ∧ Ev (fun k => treelabel_check.j3 k ps seen least (i : Int) (TP.up ps t i) (ps.length : Int) (i : Int)) r := by
    intro t seen hwk hend
    have hlt : TP.up ps t i < ps.length := (up_range hr (by omega) (by omega) t).2
    by_cases hneg : TP.up ps t i < 0
    · obtain ⟨r, hc, he⟩ := next seen least (hwk.seen_plain hr hi hs (.inl hneg))
      refine ⟨r, hc, Ev.step (fun k => by rw [treelabel_check.j3]) ?_⟩
      refine ev_pos hneg ?_
      refine Ev.step (fun k => by rw [treelabel_check.j4]) ?_
      exact ev_pos rfl he
    · have h0 : 0 ≤ TP.up ps t i := by omega
      have hne : rd seen (TP.up ps t i) ≠ 0 := by rcases hend with h | h; omega; exact h
      by_cases hmine : rd seen (TP.up ps t i) = (i : Int) + 1
      · -- a cycle
        have hex : ∃ a, a < t ∧ TP.up ps a i = TP.up ps t i := by
          rcases hwk.cases h0 hlt with h | h
          · exact h
          · have := hs.num _ h0 hlt
            rw [← h, hmine] at this; omega
        obtain ⟨a, ha, hae⟩ := hex
        obtain ⟨hcy, _⟩ := hwk.ring ha hae.symm
        rw [hae] at hcy
        obtain ⟨p, hp, hper, hmin⟩ := least_period hcy
        have hl0 : -1 ≤ least := by rcases hs.least with ⟨e, _⟩ | ⟨e, _⟩ <;> omega
        obtain ⟨r, hc, he⟩ := chk_ring hn hr hi (seen := seen) (least := least) hl0 h0 hlt hp hper hmin (fun m => cyc_up_nn hcy m) (fun least' _ hall hle hfrom => by
          refine next seen least' (hwk.seen_ring hr hi hs ha hae.symm ⟨p, hp, by rw [hae]; exact hper, fun m hm => by rw [hae]; exact hall m hm, hle, ?_⟩)
          rw [hae]; exact hfrom) p 0 least (by omega) hl0 (fun j hj => absurd hj (Nat.not_lt_zero _)) (.inr (Int.le_refl _)) (.inl rfl) (fun h => absurd h (Nat.lt_irrefl 0))
        refine ⟨r, hc, Ev.step (fun k => by rw [treelabel_check.j3]) ?_⟩
        refine ev_neg hneg (ev_pos h0 (ev_pos (by rw [hwk.len]; exact hlt) ?_))
        rw [hw, show (rd seen (TP.up ps t i) != (i : Int) + 1) = false from by rw [bne_eq_false_iff_eq]; exact hmine]
        have he' : Ev (fun k => treelabel_check.l3 k ps seen least (TP.up ps t i) (TP.up ps t i) true (ps.length : Int) (i : Int)) r := he
        refine Ev.step (fun k => by rw [treelabel_check.j4]) ?_
        exact ev_neg (by decide) he'
      · have hold : rd seen0 (TP.up ps t i) ≠ 0 := by
          rcases hwk.cases h0 hlt with ⟨s, hs1, e⟩ | h
          · have := (hwk.new s hs1).2.2; rw [e] at this; exact absurd this hmine
          · rw [← h]; exact hne
        obtain ⟨r, hc, he⟩ := next seen least (hwk.seen_plain hr hi hs (.inr hold))
        refine ⟨r, hc, Ev.step (fun k => by rw [treelabel_check.j3]) ?_⟩
        refine ev_neg hneg (ev_pos h0 (ev_pos (by rw [hwk.len]; exact hlt) ?_))
        rw [hw, show (rd seen (TP.up ps t i) != (i : Int) + 1) = true from by rw [bne_iff_ne]; exact hmine]
        refine Ev.step (fun k => by rw [treelabel_check.j4]) ?_
        exact ev_pos rfl he
  induction d with
  | zero =>
    intro t seen ht hwk
    have hend : TP.up ps t i < 0 ∨ rd seen (TP.up ps t i) ≠ 0 := by
      rcases Int.lt_or_le (TP.up ps t i) 0 with h | h
      · exact .inl h
      · right
        intro hz
        have := (hwk.next hr hi h hz).short hr hi
        omega
    obtain ⟨r, hc, he⟩ := tail t seen hwk hend
    refine ⟨r, hc, Ev.step (fun k => by rw [treelabel_check.l2]) ?_⟩
    rcases Int.lt_or_le (TP.up ps t i) 0 with h | h
    · exact ev_neg (by omega) he
    · have hlt : TP.up ps t i < ps.length := (up_range hr (by omega) (by omega) t).2
      exact ev_pos h (ev_pos h (ev_pos (by rw [hwk.len]; exact hlt) (ev_neg (by rcases hend with h2 | h2; omega; exact h2) he)))
  | succ d ih =>
    intro t seen ht hwk
    have hlt : TP.up ps t i < ps.length := (up_range hr (by omega) (by omega) t).2
    rcases Int.lt_or_le (TP.up ps t i) 0 with h | h
    · obtain ⟨r, hc, he⟩ := tail t seen hwk (.inl h)
      refine ⟨r, hc, Ev.step (fun k => by rw [treelabel_check.l2]) ?_⟩
      exact ev_neg (by omega) he
    · by_cases hz : rd seen (TP.up ps t i) = 0
      · obtain ⟨r, hc, he⟩ := ih (t + 1) _ (by omega) (hwk.next hr hi h hz)
        refine ⟨r, hc, Ev.step (fun k => by rw [treelabel_check.l2]) ?_⟩
        refine ev_pos h (ev_pos h (ev_pos (by rw [hwk.len]; exact hlt) (ev_pos hz (ev_pos hlt ?_))))
        rw [hw, show rd ps (TP.up ps t i) = TP.up ps (t + 1) i from by rw [up_out, stp_nn h]; rfl]
        exact he
      · obtain ⟨r, hc, he⟩ := tail t seen hwk (.inr hz)
        refine ⟨r, hc, Ev.step (fun k => by rw [treelabel_check.l2]) ?_⟩
        exact ev_pos h (ev_pos h (ev_pos (by rw [hwk.len]; exact hlt) (ev_neg hz he)))

/-- The loop over all nodes. -/
theorem chk_all (hn : ps.length ≤ 4096) (hr : InR ps) (d : Nat) : ∀ (i : Nat) (seen : List Int) (least : Int), i + d = ps.length → Seen ps i seen least →
    ∃ r, ChkR ps r ∧ Ev (fun k => treelabel_check.l1 k ps seen least (ps.length : Int) (i : Int)) r := by
  induction d with
  | zero =>
    intro i seen least hi hs
    obtain rfl : i = ps.length := by omega
    rcases hs.least with ⟨e, hl⟩ | ⟨h4, h5, h6, hl⟩
    · refine ⟨(0, 0), .inr (.inr (.inr ⟨hn, hr, fun j h0 h1 => hl j h0 h1 (hs.all j h0 h1), rfl⟩)), ?_⟩
      refine Ev.step (fun k => by rw [treelabel_check.l1]) ?_
      exact ev_neg (by omega) (ev_neg (by omega) (Ev.now _))
    · refine ⟨(least, 12), .inr (.inr (.inl ⟨hn, hr, least, h5, h6, fun j hj hc => hl j hc.1 hj (hs.all j hc.1 hj) hc, rfl⟩)), ?_⟩
      refine Ev.step (fun k => by rw [treelabel_check.l1]) ?_
      exact ev_neg (by omega) (ev_pos h4 (Ev.now _))
  | succ d ih =>
    intro i seen least hi hs
    have hlt : i < ps.length := by omega
    obtain ⟨r, hc, he⟩ := chk_walk hn hr hlt hs (fun seen' least' hs' => by
      obtain ⟨r, hc, he⟩ := ih (i + 1) seen' least' (by omega) hs'
      exact ⟨r, hc, by rw [wrap_up i (by omega)]; exact he⟩) ps.length 0 seen (by omega) (Walk.start hs.len)
    refine ⟨r, hc, Ev.step (fun k => by rw [treelabel_check.l1]) ?_⟩
    exact ev_pos (by omega) he

/-- The loop that looks for a parent out of range. -/
theorem chk_range (hn : ps.length ≤ 4096) (d : Nat) : ∀ (i : Nat), i + d = ps.length → (∀ j : Nat, j < i → -1 ≤ rdi ps j ∧ rdi ps j < ps.length) →
    ∃ r, ChkR ps r ∧ Ev (fun k => treelabel_check.l0 k ps ps (ps.length : Int) (i : Int)) r := by
  induction d with
  | zero =>
    intro i hi hj
    obtain rfl : i = ps.length := by omega
    have hr := inR_of hj
    obtain ⟨r, hc, he⟩ := chk_all hn hr ps.length 0 (List.replicate ps.length 0) (-1) (by omega) ⟨by rw [List.length_replicate], fun v h0 h1 => by rw [rd_replicate h0 h1]; omega, fun v h0 h1 hne => absurd (rd_replicate h0 h1) hne, fun v h0 h1 => by omega, .inl ⟨rfl, fun v h0 h1 hne => absurd (rd_replicate h0 h1) hne⟩⟩
    refine ⟨r, hc, Ev.step (fun k => by rw [treelabel_check.l0]) ?_⟩
    refine ev_neg (by omega) (ev_pos (by omega) (ev_pos (by omega) ?_))
    rw [Int.toNat_natCast]
    exact he
  | succ d ih =>
    intro i hi hj
    have hlt : (i : Int) < ps.length := by omega
    by_cases h1 : rdi ps i < -1
    · refine ⟨(i, 8), .inr (.inl ⟨hn, i, by omega, .inl h1, hj, rfl⟩), ?_⟩
      refine Ev.step (fun k => by rw [treelabel_check.l0]) ?_
      exact ev_pos hlt (ev_pos (by omega) (ev_pos hlt (ev_pos h1 (Ev.now _))))
    · by_cases h2 : (ps.length : Int) ≤ rdi ps i
      · refine ⟨(i, 8), .inr (.inl ⟨hn, i, by omega, .inr h2, hj, rfl⟩), ?_⟩
        refine Ev.step (fun k => by rw [treelabel_check.l0]) ?_
        exact ev_pos hlt (ev_pos (by omega) (ev_pos hlt (ev_neg h1 (ev_pos h2 (Ev.now _)))))
      · obtain ⟨r, hc, he⟩ := ih (i + 1) (by omega) (fun j hji => by
          rcases Nat.lt_or_ge j i with h | h
          · exact hj j h
          · obtain rfl : j = i := by omega
            omega)
        refine ⟨r, hc, Ev.step (fun k => by rw [treelabel_check.l0]) ?_⟩
        refine ev_pos hlt (ev_pos (by omega) (ev_pos hlt (ev_neg h1 (ev_neg h2 ?_))))
        rw [wrap_up i (by omega)]
        exact he
/-- treelabel.check. -/
theorem check_ev (ps : List Int) : ∃ r, ChkR ps r ∧ Ev (fun k => treelabel_check.f k ps) r := by
  by_cases hn : 4096 < ps.length
  · exact ⟨(0, 2), .inl ⟨hn, rfl⟩, ev_pos (by omega) (Ev.now _)⟩
  · obtain ⟨r, hc, he⟩ := chk_range (ps := ps) (by omega) ps.length 0 (by omega) (fun j hj => absurd hj (Nat.not_lt_zero _))
    exact ⟨r, hc, ev_neg (by omega) he⟩
end
end Go.Proofs.Ythjcmodhleoocaa.Q
/- AssignEv -/
namespace Go.Proofs.Ythjcmodhleoocaa.Q
open Go.RowKit Go.Proofs.YthjcmodhleoocaaW.PrintWords Go.Proofs.YthjcmodhleoocaaW.PrintLast
open Go.Proofs.Ythjcmodhleoocaa.TP
/-- The children of p before index i. -/
def kidsTo (ps : List Int) (p : Int) (i : Nat) : List Nat := (List.range' 0 i).filter (fun j => ps.getD j 0 == p)
theorem kidsTo_zero (ps : List Int) (p : Int) : kidsTo ps p 0 = [] := rfl
theorem kidsTo_hit {ps : List Int} {p : Int} {i : Nat} (h : ps.getD i 0 = p) : kidsTo ps p (i + 1) = kidsTo ps p i ++ [i] := by
  unfold kidsTo
  rw [List.range'_1_concat, List.filter_append]
  rw [List.getD_eq_getElem?_getD] at h
  simp [h]
theorem kidsTo_miss {ps : List Int} {p : Int} {i : Nat} (h : ps.getD i 0 ≠ p) : kidsTo ps p (i + 1) = kidsTo ps p i := by
  unfold kidsTo
  rw [List.range'_1_concat, List.filter_append]
  rw [List.getD_eq_getElem?_getD] at h
  simp [h]
theorem kidsTo_all (ps : List Int) (p : Int) : kidsTo ps p ps.length = kidsOf ps p := rfl
theorem kidsTo_len (ps : List Int) (p : Int) (i : Nat) : (kidsTo ps p i).length ≤ i := by
  have := List.length_filter_le (fun j => ps.getD j 0 == p) (List.range' 0 i)
  unfold kidsTo
  simp at this ⊢; omega
/-- Natural numbers as whole numbers. -/
def ints (l : List Nat) : List Int := l.map Int.ofNat
theorem ints_nat (l : List Nat) : (ints l).map Int.toNat = l := by
  unfold ints
  rw [List.map_map]
  exact List.map_id'' (fun _ => rfl) l
theorem ints_nn (l : List Nat) : ∀ x ∈ ints l, (0 : Int) ≤ x := by
  intro x hx
  obtain ⟨y, _, rfl⟩ := List.mem_map.1 hx
  exact Int.natCast_nonneg y
theorem rd_L1_set_same {xs : List (List Int)} {i : Int} {v : List Int} (h0 : 0 ≤ i) (h : i < xs.length) : (xs.set i.toNat v).getD i.toNat [] = v := by
  rw [List.getD_eq_getElem?_getD, List.getElem?_set_self (by omega)]; rfl

theorem asg_loop {ps : List Int} (hn : ps.length ≤ 4096) (hf : Forest ps) {t : NS} (ht : visL ps (lim ps.length) (kidsOf ps (-1)) 0 (blank ps.length) = some t) (hp : t.pre ≤ 1000000) (hq : t.post ≤ 1000000) (d : Nat) :
    ∀ (i : Nat) (ch : List (List Int)), i + d = ps.length → ch.length = ps.length → (∀ v, v < ps.length → ch.getD v [] = ints (kidsTo ps (v : Int) i)) →
      Ev (fun k => treelabel_Assign.l0 k (ints (kidsTo ps (-1) i)) ps (ps.length : Int) (i : Int) ch (List.replicate ps.length z41) 0 0) (t.L.map lab41, 0, 0) := by
  induction d with
  | zero =>
    intro i ch hi hl hch
    obtain rfl : i = ps.length := by omega
    refine Ev.step (fun k => by rw [treelabel_Assign.l0]) ?_
    refine ev_neg (by omega) ?_
    have hkd : kdc ch = kd ps := by
      funext v
      unfold kdc
      by_cases hv : v < ps.length
      · rw [hch v hv, ints_nat, kidsTo_all]; rfl
      · rw [List.getD_eq_getElem?_getD, List.getElem?_eq_none (by omega)]
        show [] = kd ps v
        symm
        rw [List.eq_nil_iff_forall_not_mem]
        intro c hc
        have h1 := mem_kd.1 hc
        have h2 := hf.rng (c : Int) (by omega) (by omega)
        omega
    refine Ev.of (fun k => treelabel_Assign.l1_mono k _ _ _ _ _ _ _) (k := ps.length) ?_
    unfold treelabel_Assign.l1
    have hmem : ∀ c ∈ ch, ∃ v, v < ps.length ∧ c = ints (kidsTo ps (v : Int) ps.length) := by
      intro c hc
      obtain ⟨v, hv, rfl⟩ := List.getElem_of_mem hc
      refine ⟨v, by omega, ?_⟩
      rw [← hch v (by omega), List.getD_eq_getElem?_getD, List.getElem?_eq_getElem hv]; rfl
    rw [if_pos ⟨fun c hc x hx => by
        obtain ⟨v, _, rfl⟩ := hmem c hc
        exact ints_nn _ x hx, ints_nn _, by rw [hl, List.length_replicate], by rw [List.length_replicate]; omega, fun c hc => by
        obtain ⟨v, _, rfl⟩ := hmem c hc
        have := kidsTo_len ps (v : Int) ps.length
        simp only [ints, List.length_map]; omega, by
        have := kidsTo_len ps (-1) ps.length
        simp only [ints, List.length_map]; omega⟩]
    rw [ints_nat, kidsTo_all, hkd, List.length_replicate]
    have ht' : (kidsOf ps (-1)).foldlM (fun s c => vis (kd ps) (lim ps.length) c 0 s) (blank ps.length) = some t := ht
    rw [ht']
    simp only
    rw [if_pos ⟨hp, hq⟩]
  | succ d ih =>
    intro i ch hi hl hch
    have hlt : (i : Int) < ps.length := by omega
    have hr := hf.rng (i : Int) (by omega) hlt
    have hg : ps.getD i 0 = rdi ps (i : Int) := (rdi_nat ps i).symm
    refine Ev.step (fun k => by rw [treelabel_Assign.l0]) ?_
    refine ev_pos hlt (ev_pos (by omega) (ev_pos hlt ?_))
    by_cases hneg : rdi ps (i : Int) < 0
    · have hm1 : rdi ps (i : Int) = -1 := by omega
      refine ev_pos hneg (ev_pos ?_ ?_)
      · have := kidsTo_len ps (-1) i
        simp only [ints, List.length_map]; omega
      · have h1 := ih (i + 1) ch (by omega) hl (fun v hv => by rw [kidsTo_miss (by rw [hg]; omega)]; exact hch v hv)
        rw [kidsTo_hit (by rw [hg]; exact hm1)] at h1
        rw [wrap_up i (by omega)]
        have e : ints (kidsTo ps (-1) i) ++ [(i : Int)] = ints (kidsTo ps (-1) i ++ [i]) := by simp [ints]
        rw [e]; exact h1
    · have h0 : 0 ≤ rdi ps (i : Int) := by omega
      obtain ⟨q, hq'⟩ : ∃ q : Nat, rdi ps (i : Int) = (q : Int) := ⟨(rdi ps (i : Int)).toNat, by omega⟩
      have hqn : q < ps.length := by omega
      have hrow : rd_L1 ch (rdi ps (i : Int)) = ints (kidsTo ps (q : Int) i) := by
        unfold rd_L1
        rw [hq', Int.toNat_natCast]; exact hch q hqn
      refine ev_neg hneg (ev_pos h0 (ev_pos (by show rdi ps (i : Int) < (ch.length : Int); omega) (ev_pos ?_ ?_)))
      · show (rd_L1 ch (rdi ps (i : Int))).length < 17592186044416
        rw [hrow]
        have := kidsTo_len ps (q : Int) i
        simp only [ints, List.length_map]; omega
      · have h1 := ih (i + 1) (ch.set q (ints (kidsTo ps (q : Int) i) ++ [(i : Int)])) (by omega) (by rw [List.length_set]; exact hl) (fun v hv => by
          by_cases e : v = q
          · subst e
            rw [List.getD_eq_getElem?_getD, List.getElem?_set_self (by omega), kidsTo_hit (by rw [hg]; exact hq')]
            simp [ints]
          · rw [List.getD_eq_getElem?_getD, List.getElem?_set_ne (by omega), ← List.getD_eq_getElem?_getD, kidsTo_miss (by rw [hg]; omega)]
            exact hch v hv)
        rw [kidsTo_miss (by rw [hg]; omega)] at h1
        rw [wrap_up i (by omega)]
        show Ev (fun k => treelabel_Assign.l0 k (ints (kidsTo ps (-1) i)) ps (ps.length : Int) ((i + 1 : Nat) : Int) (ch.set (rdi ps (i : Int)).toNat (rd_L1 ch (rdi ps (i : Int)) ++ [(i : Int)])) (List.replicate ps.length z41) 0 0) (t.L.map lab41, 0, 0)
        rw [hrow, hq', Int.toNat_natCast]
        exact h1
/-- treelabel.Assign. -/
theorem asg_ev (ps : List Int) : ∃ r L, ChkR ps r ∧ (r.2 = 0 → HasNum ps L) ∧ (r.2 ≠ 0 → L = []) ∧ Ev (fun k => treelabel_Assign.f k ps) (L.map lab41, r.1, r.2) := by
  obtain ⟨r, hc, he⟩ := check_ev ps
  rcases hc.cases with ⟨h0, h1, hn, hf⟩ | ⟨h0, _⟩
  · obtain ⟨t, ht, hp, hq, _, hL⟩ := num_ev hn hf
    refine ⟨r, t.L, hc, fun _ => hL, fun h => absurd h0 h, ?_⟩
    refine Ev.bind he (ev_pos h0 (ev_pos (by omega) (ev_pos (by omega) ?_)))
    have h2 := asg_loop hn hf ht hp hq ps.length 0 (List.replicate ps.length []) (by omega) (by rw [List.length_replicate]) (fun v hv => by
      rw [List.getD_eq_getElem?_getD, List.getElem?_replicate, if_pos hv]; rfl)
    rw [h0, h1, Int.toNat_natCast]
    exact h2
  · refine ⟨r, [], hc, fun h => absurd h h0, fun _ => rfl, ?_⟩
    exact Ev.bind he (ev_neg h0 (Ev.now _))
end Go.Proofs.Ythjcmodhleoocaa.Q
/- RefAssignEv -/
namespace Go.Proofs.Ythjcmodhleoocaa.Q
open Go.RowKit Go.Proofs.YthjcmodhleoocaaW.PrintWords Go.Proofs.YthjcmodhleoocaaW.PrintLast
open Go.Proofs.Ythjcmodhleoocaa.TP
section
variable {ps : List Int}
theorem rcyc_loop (hn : ps.length ≤ 4096) (hr : InR ps) {i : Int} (hi0 : 0 ≤ i) (hi : i < ps.length) (d : Nat) : ∀ (m : Nat), m + d = ps.length → (∀ j, 0 < j → j ≤ m → TP.up ps j i ≠ i) → 0 ≤ TP.up ps m i →
    ∃ b, (b = true ↔ Cyc ps i) ∧ Ev (fun k => corporaref10_cyclic.l0 k ps i (TP.up ps m i) (ps.length : Int) (m : Int)) b := by
  induction d with
  | zero =>
    intro m hm hne h0
    refine ⟨false, ⟨fun h => (by cases h), fun hc => ?_⟩, ?_⟩
    · obtain ⟨p, h1, h2, h3⟩ := cyc_short hr hi hc
      exact absurd h3 (hne p h1 (by omega))
    · refine Ev.step (fun k => by rw [corporaref10_cyclic.l0]) ?_
      exact ev_neg (by omega) (Ev.now _)
  | succ d ih =>
    intro m hm hne h0
    have hlt : TP.up ps m i < ps.length := (up_range hr (by omega) hi m).2
    have hnx : rd ps (TP.up ps m i) = TP.up ps (m + 1) i := by rw [up_out, stp_nn h0]; rfl
    by_cases h1 : TP.up ps (m + 1) i < 0
    · refine ⟨false, ⟨fun h => (by cases h), fun hc => ?_⟩, ?_⟩
      · have := cyc_up_nn hc (m + 1); omega
      · refine Ev.step (fun k => by rw [corporaref10_cyclic.l0]) ?_
        exact ev_pos (by omega) (ev_pos h0 (ev_pos hlt (ev_pos (by rw [hnx]; exact h1) (Ev.now _))))
    · by_cases h2 : TP.up ps (m + 1) i = i
      · refine ⟨true, ⟨fun _ => ⟨hi0, m + 1, by omega, h2⟩, fun _ => rfl⟩, ?_⟩
        refine Ev.step (fun k => by rw [corporaref10_cyclic.l0]) ?_
        exact ev_pos (by omega) (ev_pos h0 (ev_pos hlt (ev_neg (by rw [hnx]; exact h1) (ev_pos (by rw [hnx]; exact h2) (Ev.now _)))))
      · obtain ⟨b, hb, he⟩ := ih (m + 1) (by omega) (fun j hj hj' => by
          rcases Nat.lt_or_ge j (m + 1) with h | h
          · exact hne j hj (by omega)
          · obtain rfl : j = m + 1 := by omega
            exact h2) (by omega)
        refine ⟨b, hb, ?_⟩
        refine Ev.step (fun k => by rw [corporaref10_cyclic.l0]) ?_
        refine ev_pos (by omega) (ev_pos h0 (ev_pos hlt (ev_neg (by rw [hnx]; exact h1) (ev_neg (by rw [hnx]; exact h2) ?_))))
        rw [hnx, wrap_up m (by omega)]
        exact he
theorem rcyc_ev (hn : ps.length ≤ 4096) (hr : InR ps) {i : Int} (hi0 : 0 ≤ i) (hi : i < ps.length) : ∃ b, (b = true ↔ Cyc ps i) ∧ Ev (fun k => corporaref10_cyclic.f k ps i) b :=
  rcyc_loop hn hr hi0 hi ps.length 0 (by omega) (fun j h1 h2 => by omega) hi0
theorem rasg_cyc (hn : ps.length ≤ 4096) (hr : InR ps) (hnum : (∀ j : Int, 0 ≤ j → j < ps.length → ¬ Cyc ps j) → ∃ L, HasNum ps L) (d : Nat) : ∀ (i : Nat), i + d = ps.length → (∀ j : Int, 0 ≤ j → j < i → ¬ Cyc ps j) →
    ∃ r L, ChkR ps r ∧ (r.2 = 0 → HasNum ps L) ∧ (r.2 ≠ 0 → L = []) ∧ Ev (fun k => corporaref10_Assign.l1 k ps (ps.length : Int) (i : Int)) (L.map lab43, r.1, r.2) := by
  induction d with
  | zero =>
    intro i hi hj
    obtain rfl : i = ps.length := by omega
    obtain ⟨L, hL⟩ := hnum hj
    refine ⟨(0, 0), L, .inr (.inr (.inr ⟨hn, hr, hj, rfl⟩)), fun _ => hL, fun h => absurd rfl h, ?_⟩
    refine Ev.step (fun k => by rw [corporaref10_Assign.l1]) ?_
    refine ev_neg (by omega) (ev_pos (by omega) (ev_pos (by omega) ?_))
    exact Ev.bind hL (Ev.now _)
  | succ d ih =>
    intro i hi hj
    obtain ⟨b, hb, he⟩ := rcyc_ev hn hr (i := (i : Int)) (by omega) (by omega)
    cases b with
    | true =>
      refine ⟨((i : Int), 12), [], .inr (.inr (.inl ⟨hn, hr, (i : Int), by omega, hb.1 rfl, fun j hj' hc => ?_, rfl⟩)), fun h => (by cases h), fun _ => rfl, ?_⟩
      · rcases Int.lt_or_le j i with h | h
        · exact absurd hc (hj j hc.1 h)
        · exact h
      · refine Ev.step (fun k => by rw [corporaref10_Assign.l1]) ?_
        exact ev_pos (by omega) (Ev.bind he (ev_pos rfl (Ev.now _)))
    | false =>
      obtain ⟨r, L, hc, h1, h2, he2⟩ := ih (i + 1) (by omega) (fun j h0 h1 => by
        rcases Int.lt_or_le j i with h | h
        · exact hj j h0 h
        · obtain rfl : j = i := by omega
          intro hc; have := hb.2 hc; cases this)
      refine ⟨r, L, hc, h1, h2, ?_⟩
      refine Ev.step (fun k => by rw [corporaref10_Assign.l1]) ?_
      refine ev_pos (by omega) (Ev.bind he (ev_neg (by decide) ?_))
      rw [wrap_up i (by omega)]
      exact he2
theorem rasg_range (hn : ps.length ≤ 4096) (hnum : InR ps → (∀ j : Int, 0 ≤ j → j < ps.length → ¬ Cyc ps j) → ∃ L, HasNum ps L) (d : Nat) : ∀ (i : Nat), i + d = ps.length → (∀ j : Nat, j < i → -1 ≤ rdi ps j ∧ rdi ps j < ps.length) →
    ∃ r L, ChkR ps r ∧ (r.2 = 0 → HasNum ps L) ∧ (r.2 ≠ 0 → L = []) ∧ Ev (fun k => corporaref10_Assign.l0 k ps ps (ps.length : Int) (i : Int)) (L.map lab43, r.1, r.2) := by
  induction d with
  | zero =>
    intro i hi hj
    obtain rfl : i = ps.length := by omega
    have hr := inR_of hj
    obtain ⟨r, L, hc, h1, h2, he⟩ := rasg_cyc hn hr (hnum hr) ps.length 0 (by omega) (fun j h0 h1 => by omega)
    refine ⟨r, L, hc, h1, h2, ?_⟩
    refine Ev.step (fun k => by rw [corporaref10_Assign.l0]) ?_
    exact ev_neg (by omega) he
  | succ d ih =>
    intro i hi hj
    have hlt : (i : Int) < ps.length := by omega
    by_cases h1 : rdi ps i < -1
    · refine ⟨((i : Int), 8), [], .inr (.inl ⟨hn, i, by omega, .inl h1, hj, rfl⟩), fun h => (by cases h), fun _ => rfl, ?_⟩
      refine Ev.step (fun k => by rw [corporaref10_Assign.l0]) ?_
      exact ev_pos hlt (ev_pos (by omega) (ev_pos hlt (ev_pos h1 (Ev.now _))))
    · by_cases h2 : (ps.length : Int) ≤ rdi ps i
      · refine ⟨((i : Int), 8), [], .inr (.inl ⟨hn, i, by omega, .inr h2, hj, rfl⟩), fun h => (by cases h), fun _ => rfl, ?_⟩
        refine Ev.step (fun k => by rw [corporaref10_Assign.l0]) ?_
        exact ev_pos hlt (ev_pos (by omega) (ev_pos hlt (ev_neg h1 (ev_pos h2 (Ev.now _)))))
      · obtain ⟨r, L, hc, h3, h4, he⟩ := ih (i + 1) (by omega) (fun j hji => by
          rcases Nat.lt_or_ge j i with h | h
          · exact hj j h
          · obtain rfl : j = i := by omega
            omega)
        refine ⟨r, L, hc, h3, h4, ?_⟩
        refine Ev.step (fun k => by rw [corporaref10_Assign.l0]) ?_
        refine ev_pos hlt (ev_pos (by omega) (ev_pos hlt (ev_neg h1 (ev_neg h2 ?_))))
        rw [wrap_up i (by omega)]
        exact he
/-- The reference's Assign. -/
theorem rasg_ev (ps : List Int) (hnum : ps.length ≤ 4096 → InR ps → (∀ j : Int, 0 ≤ j → j < ps.length → ¬ Cyc ps j) → ∃ L, HasNum ps L) :
    ∃ r L, ChkR ps r ∧ (r.2 = 0 → HasNum ps L) ∧ (r.2 ≠ 0 → L = []) ∧ Ev (fun k => corporaref10_Assign.f k ps) (L.map lab43, r.1, r.2) := by
  by_cases hn : 4096 < ps.length
  · exact ⟨(0, 2), [], .inl ⟨hn, rfl⟩, fun h => (by cases h), fun _ => rfl, ev_pos (by omega) (Ev.now _)⟩
  · obtain ⟨r, L, hc, h1, h2, he⟩ := rasg_range (ps := ps) (by omega) (hnum (by omega)) ps.length 0 (by omega) (fun j hj => absurd hj (Nat.not_lt_zero _))
    exact ⟨r, L, hc, h1, h2, ev_neg (by omega) he⟩
end
end Go.Proofs.Ythjcmodhleoocaa.Q
/- PureTreelabelAssigns -/
namespace Go.Proofs.Ythjcmodhleoocaa.Pure
open Go.RowKit Go.Proofs.Ythjcmodhleoocaa.Q Go.Proofs.YthjcmodhleoocaaW.PrintWords Go.Proofs.YthjcmodhleoocaaW.PrintLast
open Go.Proofs.Ythjcmodhleoocaa.TP

theorem equal_loop {L : List Lab} (hn : L.length ≤ 4096) (d : Nat) : ∀ i : Nat, i + d = L.length →
    Ev (fun k => corporalaw10_equal.l0 k (L.map lab41) (L.map lab43) (L.length : Int) (i : Int)) true := by
  induction d with
  | zero =>
    intro i hi
    refine Ev.step (fun k => by rw [corporalaw10_equal.l0]) ?_
    exact ev_neg (by omega) (Ev.now _)
  | succ d ih =>
    intro i hi
    have hlt : i < L.length := by omega
    have e1 : rd_T41 (L.map lab41) (i : Int) = lab41 L[i] := by
      unfold rd_T41
      rw [Int.toNat_natCast, List.getD_eq_getElem?_getD, List.getElem?_map, List.getElem?_eq_getElem hlt]; rfl
    have e2 : rd_T43 (L.map lab43) (i : Int) = lab43 L[i] := by
      unfold rd_T43
      rw [Int.toNat_natCast, List.getD_eq_getElem?_getD, List.getElem?_map, List.getElem?_eq_getElem hlt]; rfl
    refine Ev.step (fun k => by rw [corporalaw10_equal.l0]) ?_
    refine ev_pos (by omega) (ev_pos (by omega) (ev_pos (by rw [List.length_map]; omega) (ev_pos (by rw [List.length_map]; omega) (ev_neg ?_ ?_))))
    · rw [e1, e2]; simp [lab41, lab43]
    · rw [wrap_up i (by omega)]; exact ih (i + 1) (by omega)
theorem equal_ev {L : List Lab} (hn : L.length ≤ 4096) : Ev (fun k => corporalaw10_equal.f k (L.map lab41) (L.map lab43)) true := by
  refine ev_pos (by rw [List.length_map, List.length_map]) ?_
  have := equal_loop hn L.length 0 (by omega)
  rw [List.length_map]
  exact this

theorem TreelabelAssigns : corporalaw10_TreelabelAssigns.Pure := by
  intro ps _ _ _
  refine Ev.rounds (g := fun k => corporalaw10_TreelabelAssigns.f k ps) ?_
  by_cases hn : (ps.length : Int) > 60
  · exact ev_pos hn (Ev.now _)
  · refine ev_neg hn ?_
    obtain ⟨r, L, hc, h1, h2, he⟩ := asg_ev ps
    obtain ⟨r', L', hc', h1', h2', he'⟩ := rasg_ev ps (fun hn hr hcy => by
      obtain ⟨t, _, _, _, _, hL⟩ := num_ev hn ⟨hr, hcy⟩
      exact ⟨t.L, hL⟩)
    obtain rfl := hc.uniq hc'
    have hL : L = L' := by
      by_cases h0 : r.2 = 0
      · exact (h1 h0).uniq (h1' h0)
      · rw [h2 h0, h2' h0]
    subst hL
    have hlen : L.length ≤ 4096 := by
      by_cases h0 : r.2 = 0
      · obtain ⟨a, b, _⟩ := hc.forest h0
        rw [((h1 h0).lab a b).len]; exact a
      · rw [h2 h0]; simp
    refine Ev.bind he (Ev.bind he' (Ev.bind (equal_ev hlen) (ev_pos rfl (ev_pos rfl (ev_pos rfl ?_)))))
    exact Ev.bind awake_ev (Ev.now _)
end Go.Proofs.Ythjcmodhleoocaa.Pure
/- LawTreelabelAssigns -/
namespace Go.Proofs.Ythjcmodhleoocaa.treelabelAssigns
open Go.ChangeShapes Go.WideShapes Go.ChangeAt Go.RowKit
open Go.ChangeMaps (open_string shut_string)
set_option linter.unusedVariables false
theorem own : ownKnob Try.prog.godebug = none := by kernel_rfl
theorem laidOut : laidOutB Try.prog = true := by kernel_rfl
def IsRow (k : IntKind) (w : World) (a : Option Addr) (len cap : Nat) (zs : List Int) : Prop :=
  (a = none ∧ len = 0 ∧ cap = 0 ∧ zs = []) ∨
  ∃ x, a = some x ∧ len ≤ cap ∧ cap ≤ maxLen ∧ zs.length = cap ∧ (∀ i, i < zs.length → w.cell? (x.add i) = some (.int k (zs.getD i 0))) ∧ ∀ n ∈ zs, (Lit.int k n).wf = true
set_option maxRecDepth 100000 in
theorem lifted (os : Os) (started : os.Started) (H : Type) (enc : TypeId × Value → H) :
    ReturnsInHanded {} Try.checked os 3 .any (Rows.treelabelAssignsSpec.pre6 enc Try.prog Try.f3 Rows.treelabelAssignsRow.domain false) (Rows.treelabelAssignsSpec.post enc Try.prog Try.f3 false true false false) := by
  refine returnsInHanded_of_change_sized (C := Try.checked) own started (by kernel_rfl) Try.func3
    (ChangeSpec.witness6 (enc := enc) (C := Try.checked) false ⟨#[], #[.slice none 0 0], []⟩ 8 (by kernel_rfl) (by kernel_rfl) (by kernel_rfl) (by kernel_rfl)) ?_
  intro W base args ds gs before hval0 hW hcnd hsz0 _
  have hsz : (DataW.weightsEach Try.prog (Try.f3.params.toList ++ Rows.treelabelAssignsSpec.plain.varTypes Try.prog) (ds ++ gs)).all (· ≤ reachBytes) = true := hsz0
  have hval : ∀ (j : Nat) t v, Try.f3.params[j]? = some t → args[j]? = some v → Value.okWide Try.prog W .any base t v := hval0
  have hW' := hW
  obtain ⟨p, q, hA0, hV, rfl, hfz, hnd⟩ := hW
  have hA : DataW.TrodAll enc Try.prog W 0 (fun _ => true) true Try.f3.params.toList args.toList ds p := hA0
  rw [Try.params3] at hA hval hsz
  obtain ⟨v0, vs0, d0, ds0, p0, q0, hargs, rfl, rfl, h0, r0⟩ := trodAll_cons hA
  obtain ⟨rfl, rfl, rfl⟩ := trodAll_nil r0
  obtain rfl : args = #[v0] := by cases args; simp_all
  obtain ⟨rfl, rfl⟩ := trodVars_none hV
  obtain ⟨a0, len0, cap0, rfl⟩ := okWide_slice Try.underlying22 (hval 0 22 v0 rfl rfl)
  have k0 := h0
  have lt0 : ∀ x ∈ p0, x.block < W.heap.size := by obtain ⟨m, hm⟩ := k0; exact DataW.trod_lt m _ _ _ hm
  obtain ⟨z0, w0⟩ : ∃ zs, IsRow .i64 W a0 len0 cap0 zs := by
    obtain ⟨fuel, hf⟩ := h0
    rcases open_ints Try.underlying22 Try.underlying3 (by kernel_rfl) hf with ⟨hcs, _⟩ | ⟨x, l, c, zs, hcs, _, hl, hm, hz, _, hcell, hwz⟩
    · simp [Value.cells] at hcs
      obtain ⟨rfl, rfl, rfl⟩ := hcs
      exact ⟨[], .inl ⟨rfl, rfl, rfl, rfl⟩⟩
    · simp [Value.cells] at hcs
      obtain ⟨rfl, rfl, rfl⟩ := hcs
      exact ⟨zs, .inr ⟨_, rfl, hl, hm, by simpa using hz, hcell, hwz⟩⟩
  have y0 : len0 * 8 ≤ 140737488351232 := Go.Proofs.YthjcmodhleoocaaW.PrintWords.sized_ints hsz (j := 0) (t := 22) rfl rfl Try.underlying22 Try.underlying3 (by kernel_rfl) (by kernel_rfl) h0
  clear hA0 hval0 hsz0 hsz
  refine (Q.corporalaw10_TreelabelAssigns.walk Pure.TreelabelAssigns a0 len0 cap0 z0 W w0 y0).mono fun e W' ⟨he, bel⟩ => ?_
  subst he
  exact ⟨_, rfl, _, _, _, [], _, [], hW', trodAll_mk1 (shut_bool Try.underlying4 _), (trodAll_cons_mk (Below.trod laidOut (by kernel_rfl) (of_decide_eq_true (by kernel_rfl)) k0 bel lt0) trodAll_mk0), rfl, bel.frame _, fun h => by cases h⟩
theorem over : Rows.treelabelAssignsRow.holds Try.pinned (OpenSpec.ofChange Rows.treelabelAssignsSpec) :=
  OpenClaim.holds_of_wide 3 Try.f3 rfl rfl rfl rfl rfl rfl rfl ⟨rfl, rfl, rfl, rfl, rfl⟩ rfl rfl rfl rfl rfl (by kernel_rfl) Try.func3 (by kernel_rfl)
    (of_decide_eq_true (by kernel_rfl)) (by unfold Func.isWrapper; first | (rw [if_pos (by decide +kernel)]; kernel_rfl) | (rw [if_neg (by decide +kernel)]; exact ⟨rfl, rfl⟩))
    (fun os started H enc _ => lifted os started H enc)
theorem proved : Rows.TreelabelAssignsSaid := over
end Go.Proofs.Ythjcmodhleoocaa.treelabelAssigns
namespace Go.Proofs.Ythjcmodhleoocaa
/-- The row, under a short name, for the claim. -/
theorem treelabelAssigns_holds : Rows.TreelabelAssignsSaid := treelabelAssigns.proved
end Go.Proofs.Ythjcmodhleoocaa
