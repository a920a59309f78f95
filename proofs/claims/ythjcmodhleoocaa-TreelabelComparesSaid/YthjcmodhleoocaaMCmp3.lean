/- The law TreelabelCompares answers true for every input, and each argument reads behind the call as it read before. (Part 3.) -/
import Derived.Test.YthjcmodhleoocaaMCmp1
import Derived.Test.YthjcmodhleoocaaMCmp2
set_option linter.unusedVariables false
set_option linter.unusedSimpArgs false
/- FCorporalaw10Awake -/
namespace Go.Proofs.Ythjcmodhleoocaa.Q
open Go.RowKit Go.Proofs.YthjcmodhleoocaaW.PrintWords Go.Proofs.YthjcmodhleoocaaW.PrintLast Go.Proofs.YthjcmodhleoocaaW.PrintMore
attribute [local go_sem] max2_int min2_int max_two min_two max_three min_three max_four min_four   -- for this text's walks alone
set_option linter.unusedVariables false
set_option linter.unusedSimpArgs false
attribute [local go_sem high] eqA41

/-! ### corporalaw10_awake: function 14 -/
def corporalaw10_awake.f (k : Nat)  : Option (Bool) := (treelabel_Assign.f k (([(-1), 0, 0, 1] : List Int))).bind fun bt194 => (if bt194.2.2 = 0 then (if bt194.2.1 = 0 then (if (bt194.1.length : Int) = 4 then (if 1 < (bt194.1.length : Int) then (if (((rd_T41 bt194.1 1).f0) == 1 && (((rd_T41 bt194.1 1).f1) == 1 && (((rd_T41 bt194.1 1).f2) == 1))) = true then (if 3 < (bt194.1.length : Int) then ((treelabel_Dominates.f ((rd_T41 bt194.1 1).f0) ((rd_T41 bt194.1 1).f1) ((rd_T41 bt194.1 1).f2) ((rd_T41 bt194.1 3).f0) ((rd_T41 bt194.1 3).f1) ((rd_T41 bt194.1 3).f2)).bind fun t202 => (if t202 = true then (if 2 < (bt194.1.length : Int) then ((treelabel_Precedes.f ((rd_T41 bt194.1 1).f0) ((rd_T41 bt194.1 1).f1) ((rd_T41 bt194.1 1).f2) ((rd_T41 bt194.1 2).f0) ((rd_T41 bt194.1 2).f1) ((rd_T41 bt194.1 2).f2)).bind fun t205 => (if t205 = true then ((treelabel_Common.f k bt194.1 3 2).bind fun t206 => (some (t206 == 0))) else (some false))) else (none)) else (some false))) else (none)) else (some false)) else (none)) else (some false)) else (some false)) else (some false))
theorem corporalaw10_awake.mono : ∀ k, LeO (corporalaw10_awake.f k ) (corporalaw10_awake.f (k + 1) ) := by
 intro  k
 unfold corporalaw10_awake.f
 repeat' first
   | (with_reducible exact treelabel_Assign.mono _ _)
   | (with_reducible exact treelabel_Common.mono _ _ _ _)
   | (with_reducible exact LeO.refl _)
   | (with_reducible exact LeO.none _)
   | (with_reducible refine LeO.ite ?_ ?_)
   | (with_reducible refine LeO.bind ?_ (fun _ => ?_))
   | exact treelabel_Assign.mono _ _
   | exact treelabel_Common.mono _ _ _ _
   | exact LeO.none _
   | refine LeO.ite ?_ ?_
   | refine LeO.bind ?_ (fun _ => ?_)
theorem awake_at : corporalaw10_awake.f 60 = some true := by decide +kernel
theorem awake_ev : Ev (fun k => corporalaw10_awake.f k) true := Ev.of (fun k => corporalaw10_awake.mono k) awake_at
def corporalaw10_awake.T2 : Bool × List (List Nat × List Nat) := (true, [([], []), ([0], [0]), ([1], [1]), ([2], [2]), ([3, 2], [2, 3]), ([2, 4], [2, 4]), ([5, 2], [5]), ([6], [6]), ([7, 6], [6, 7]), ([8, 6], [6, 8]), ([6, 9], [6, 9]), ([10, 6], [10]), ([11], [11]), ([12, 11], [11, 12]), ([13, 11], [11, 13]), ([11], [11]), ([14, 15, 11], [11, 14, 15]), ([11, 16], [11, 16]), ([17, 11], [17]), ([18], [18]), ([19, 18], [18, 19]), ([20, 18], [18, 20]), ([18], [18]), ([22, 18], [18, 22]), ([23, 18], [18, 23]), ([21, 24, 18, 18], [18, 21, 24]), ([18, 25], [18, 25]), ([26, 25], [26]), ([27], [27]), ([28, 27], [27, 28]), ([29, 27], [27, 29]), ([27], [27]), ([31, 27], [27, 31]), ([32, 27], [27, 32]), ([30, 33, 27, 27], [27, 30, 33]), ([27, 34], [27, 34]), ([35, 34], [35]), ([36], [36]), ([37, 36, 36], [36, 37]), ([38, 36], [36, 38]), ([36, 39], [36, 39]), ([40, 38, 0, 1, 2, 3, 4, 5, 6, 7, 8, 9, 10, 11, 12, 13, 14, 15, 16, 17, 18, 19, 20, 21, 22, 23, 24, 25, 26, 27, 28, 29, 30, 31, 32, 33, 34, 35, 36, 37, 38, 39, 40], [40])])
def corporalaw10_awake.B2 : List Nat := [0, 1, 3, 7, 15, 31, 63, 127, 255, 511, 1023, 2047, 4095, 8191, 16383, 4095, 65535, 131071, 262143, 524287, 1048575, 2097151, 524287, 4718591, 13107199, 33554431, 67108863, 134217727, 268435455, 536870911, 1073741823, 268435455, 2415919103, 6710886399, 17179869183, 34359738367, 68719476735, 137438953471, 274877906943, 549755813887, 1099511627775, 2199023255551]
theorem corporalaw10_awake.tab2 : rtab .any (opsOf Try.f14 2) = corporalaw10_awake.T2 := by kernel_rfl
theorem corporalaw10_awake.bits2 : waitsOk corporalaw10_awake.T2.2 corporalaw10_awake.B2 = true := by kernel_rfl
set_option maxHeartbeats 8000000 in
set_option maxRecDepth 100000 in
theorem corporalaw10_awake.calls (k : Nat)  (r : Bool) (w : World) (h : corporalaw10_awake.f k  = some r) :
  Calls Try.prog 14 #[] w fun e w' => e = .returned (.bool r) ∧ Below w.heap.size w w' := by
 have Hr : Aside0 (r = true) := by
  obtain ⟨K, hK⟩ := awake_ev
  have h1 : corporalaw10_awake.f (max K k) = some true := hK (max K k) (Nat.le_max_left _ _)
  have h2 := at_rounds (fun k => corporalaw10_awake.mono k) (Nat.le_max_right K k) h
  rw [h1] at h2
  exact ⟨(Option.some.inj h2).symm⟩
 have hu41 := Try.underlying41
 have HB := Aside0.mk (Below.refl w.heap.size w)
 have H : ((treelabel_Assign.f k (([(-1), 0, 0, 1] : List Int))).bind fun bt194 => (if bt194.2.2 = 0 then (if bt194.2.1 = 0 then (if (bt194.1.length : Int) = 4 then (if 1 < (bt194.1.length : Int) then (if (((rd_T41 bt194.1 1).f0) == 1 && (((rd_T41 bt194.1 1).f1) == 1 && (((rd_T41 bt194.1 1).f2) == 1))) = true then (if 3 < (bt194.1.length : Int) then ((treelabel_Dominates.f ((rd_T41 bt194.1 1).f0) ((rd_T41 bt194.1 1).f1) ((rd_T41 bt194.1 1).f2) ((rd_T41 bt194.1 3).f0) ((rd_T41 bt194.1 3).f1) ((rd_T41 bt194.1 3).f2)).bind fun t202 => (if t202 = true then (if 2 < (bt194.1.length : Int) then ((treelabel_Precedes.f ((rd_T41 bt194.1 1).f0) ((rd_T41 bt194.1 1).f1) ((rd_T41 bt194.1 1).f2) ((rd_T41 bt194.1 2).f0) ((rd_T41 bt194.1 2).f1) ((rd_T41 bt194.1 2).f2)).bind fun t205 => (if t205 = true then ((treelabel_Common.f k bt194.1 3 2).bind fun t206 => (some (t206 == 0))) else (some false))) else (none)) else (some false))) else (none)) else (some false)) else (none)) else (some false)) else (some false)) else (some false))) = some r := h
 clear h
 obtain ⟨y191, hy191⟩ : ∃ y_ : List Int, y_ = (([(-1), 0, 0, 1] : List Int)) := ⟨_, rfl⟩
 replace H : ((treelabel_Assign.f k y191).bind fun bt194 => (if bt194.2.2 = 0 then (if bt194.2.1 = 0 then (if (bt194.1.length : Int) = 4 then (if 1 < (bt194.1.length : Int) then (if (((rd_T41 bt194.1 1).f0) == 1 && (((rd_T41 bt194.1 1).f1) == 1 && (((rd_T41 bt194.1 1).f2) == 1))) = true then (if 3 < (bt194.1.length : Int) then ((treelabel_Dominates.f ((rd_T41 bt194.1 1).f0) ((rd_T41 bt194.1 1).f1) ((rd_T41 bt194.1 1).f2) ((rd_T41 bt194.1 3).f0) ((rd_T41 bt194.1 3).f1) ((rd_T41 bt194.1 3).f2)).bind fun t202 => (if t202 = true then (if 2 < (bt194.1.length : Int) then ((treelabel_Precedes.f ((rd_T41 bt194.1 1).f0) ((rd_T41 bt194.1 1).f1) ((rd_T41 bt194.1 1).f2) ((rd_T41 bt194.1 2).f0) ((rd_T41 bt194.1 2).f1) ((rd_T41 bt194.1 2).f2)).bind fun t205 => (if t205 = true then ((treelabel_Common.f k bt194.1 3 2).bind fun t206 => (some (t206 == 0))) else (some false))) else (none)) else (some false))) else (none)) else (some false)) else (none)) else (some false)) else (some false)) else (some false))) = some r := by first | (rw [hy191]; with_reducible exact H) | (have H2_ := (Option.bind_some _ _).symm.trans H; rw [hy191]; with_reducible exact H2_) | (have H2_ := (Option.bind_some _ _).symm.trans H; with_reducible exact H2_) | with_reducible exact H | (rw [hy191]; exact H) | exact H
 have Ny191 := Aside0.mk hy191
 clear hy191
 replace H := Option.bind_eq_some_iff.mp H
 obtain ⟨⟨t194, t195, t196⟩, A10, H⟩ := H
 replace H : (if t196 = 0 then (if t195 = 0 then (if (t194.length : Int) = 4 then (if 1 < (t194.length : Int) then (if (((rd_T41 t194 1).f0) == 1 && (((rd_T41 t194 1).f1) == 1 && (((rd_T41 t194 1).f2) == 1))) = true then (if 3 < (t194.length : Int) then ((treelabel_Dominates.f ((rd_T41 t194 1).f0) ((rd_T41 t194 1).f1) ((rd_T41 t194 1).f2) ((rd_T41 t194 3).f0) ((rd_T41 t194 3).f1) ((rd_T41 t194 3).f2)).bind fun t202 => (if t202 = true then (if 2 < (t194.length : Int) then ((treelabel_Precedes.f ((rd_T41 t194 1).f0) ((rd_T41 t194 1).f1) ((rd_T41 t194 1).f2) ((rd_T41 t194 2).f0) ((rd_T41 t194 2).f1) ((rd_T41 t194 2).f2)).bind fun t205 => (if t205 = true then ((treelabel_Common.f k t194 3 2).bind fun t206 => (some (t206 == 0))) else (some false))) else (none)) else (some false))) else (none)) else (some false)) else (none)) else (some false)) else (some false)) else (some false)) = some r := H
 have A1 := Aside0.mk A10
 clear A10
 by_cases c2 : t196 = 0
 ·rw [if_pos c2] at H
  have c2b0 : (t196 == 0) = true := beq_iff_eq.mpr c2
  have c2b1 : (t196 != 0) = false := bne_eq_false_iff_eq.mpr c2
  clear c2
  by_cases c3 : t195 = 0
  ·rw [if_pos c3] at H
   have c3b0 : (t195 == 0) = true := beq_iff_eq.mpr c3
   have c3b1 : (t195 != 0) = false := bne_eq_false_iff_eq.mpr c3
   clear c3
   by_cases c4 : (t194.length : Int) = 4
   ·rw [if_pos c4] at H
    have c4b0 : ((t194.length : Int) == 4) = true := beq_iff_eq.mpr c4
    have c4b1 : ((t194.length : Int) != 4) = false := bne_eq_false_iff_eq.mpr c4
    clear c4
    by_cases c5 : 1 < (t194.length : Int)
    ·rw [if_pos c5] at H
     have c5b0 : decide (1 < (t194.length : Int)) = true := decide_eq_true c5
     have c5b1 : decide (1 < t194.length) = true := decide_eq_true (by omega)
     clear c5
     by_cases c6 : (((rd_T41 t194 1).f0) == 1 && (((rd_T41 t194 1).f1) == 1 && (((rd_T41 t194 1).f2) == 1))) = true
     ·rw [if_pos c6] at H
      have c6b0 : (((rd_T41 t194 1).f0) == 1 && (((rd_T41 t194 1).f1) == 1 && (((rd_T41 t194 1).f2) == 1))) = true := c6
      (try (have c6b1 : decide (((rd_T41 t194 1).f0) = 1 && (((rd_T41 t194 1).f1) == 1 && (((rd_T41 t194 1).f2) == 1))) = true := by simpa using c6))
      (try (have c6b2 : (((rd_T41 t194 1).f0) == 1 && (((rd_T41 t194 1).f1) == 1 && (((rd_T41 t194 1).f2) == 1))) = true := by simpa using c6))
      clear c6
      by_cases c7 : 3 < (t194.length : Int)
      ·rw [if_pos c7] at H
       have c7b0 : decide (3 < (t194.length : Int)) = true := decide_eq_true c7
       have c7b1 : decide (3 < t194.length) = true := decide_eq_true (by omega)
       clear c7
       replace H := Option.bind_eq_some_iff.mp H
       obtain ⟨t202, A80, H⟩ := H
       replace H : (if t202 = true then (if 2 < (t194.length : Int) then ((treelabel_Precedes.f ((rd_T41 t194 1).f0) ((rd_T41 t194 1).f1) ((rd_T41 t194 1).f2) ((rd_T41 t194 2).f0) ((rd_T41 t194 2).f1) ((rd_T41 t194 2).f2)).bind fun t205 => (if t205 = true then ((treelabel_Common.f k t194 3 2).bind fun t206 => (some (t206 == 0))) else (some false))) else (none)) else (some false)) = some r := H
       have A8 := Aside0.mk A80
       clear A80
       by_cases c9 : t202 = true
       ·subst c9
        have H1 : (if 2 < (t194.length : Int) then ((treelabel_Precedes.f ((rd_T41 t194 1).f0) ((rd_T41 t194 1).f1) ((rd_T41 t194 1).f2) ((rd_T41 t194 2).f0) ((rd_T41 t194 2).f1) ((rd_T41 t194 2).f2)).bind fun t205 => (if t205 = true then ((treelabel_Common.f k t194 3 2).bind fun t206 => (some (t206 == 0))) else (some false))) else (none)) = some r := by rw [if_pos rfl] at H; exact H
        clear H
        have H := H1
        clear H1
        by_cases c10 : 2 < (t194.length : Int)
        ·rw [if_pos c10] at H
         have c10b0 : decide (2 < (t194.length : Int)) = true := decide_eq_true c10
         have c10b1 : decide (2 < t194.length) = true := decide_eq_true (by omega)
         clear c10
         replace H := Option.bind_eq_some_iff.mp H
         obtain ⟨t205, A110, H⟩ := H
         replace H : (if t205 = true then ((treelabel_Common.f k t194 3 2).bind fun t206 => (some (t206 == 0))) else (some false)) = some r := H
         have A11 := Aside0.mk A110
         clear A110
         by_cases c12 : t205 = true
         ·subst c12
          have H1 : ((treelabel_Common.f k t194 3 2).bind fun t206 => (some (t206 == 0))) = some r := by rw [if_pos rfl] at H; exact H
          clear H
          have H := H1
          clear H1
          replace H := Option.bind_eq_some_iff.mp H
          obtain ⟨t206, A130, H⟩ := H
          replace H : (some (t206 == 0)) = some r := H
          have A13 := Aside0.mk A130
          clear A130
          obtain rfl := Option.some.inj H
          go_enter Try.func14, Try.ntmps14
          try go_wp2_with (first | ((with_reducible refine gate_dst (N := 5) rfl ?_); (try (refine gate_guard (by rfl) ?_; dsimp only)); refine Kd.R_lit (Kd.int .i64) _ 3 ?hg (N := 5) ?hd (xs := ([(-1), 0, 0, 1] : List Int)) (inner := [.int .i64 (-1), .int .i64 0, .int .i64 0, .int .i64 1]) (ok := fun _ => True) (okp := fun _ => True) ?hr ?hp (fun _ hk => hk) trivial (Below.refl _ _) (Nat.le_refl _) (by simp) ?_; (case hd => rfl); (case hg => rfl); (case hr => first | (go_simp; done) | (go_simp; rfl)); (case hp => exact (Reps.one (show Kd.M (Kd.int .i64) _ _ _ (-1) [.int .i64 (-1)] from rfl) (Reps.one (show Kd.M (Kd.int .i64) _ _ _ 0 [.int .i64 0] from rfl) (Reps.one (show Kd.M (Kd.int .i64) _ _ _ 0 [.int .i64 0] from rfl) (Reps.one (show Kd.M (Kd.int .i64) _ _ _ 1 [.int .i64 1] from rfl) (Reps.none _ _)))))); intro v192 w14 ho15 hb hg_ hnew_; clear hg_ hnew_; (first | rw [← Ny191.out] at ho15 | (simp only [Int.reduceToNat] at ho15; rw [← Ny191.out] at ho15)); have n0_ := Aside0.mk (Kd.R_lower ho15 (below_size (by repeat (first | (with_reducible first | exact HB.out | apply below_alloc | apply pw_below_drewN | apply below_drew1) | exact HB.out)))); have n1_ := Aside0.mk (below_step (by repeat (first | (with_reducible first | exact HB.out | apply below_alloc | apply pw_below_drewN | apply below_drew1) | exact HB.out)) hb); clear HB; have HO193 := n0_; have HB := n1_; clear n0_ n1_; clear hb ho15; obtain ⟨Ao16, co16, eo16⟩ := Kd.R_slice HO193.out; subst eo16) | ((with_reducible refine gate_callee (f := 11) rfl ?_); refine goesL_ (some 6) rfl rfl Try.func11 (by kernel_rfl) rfl #[.slice Ao16 y191.length co16] rfl (by (try simp only [List.map_toArray, List.map_cons, List.map_nil]); first | done | rfl | (simp only [List.length_drop, List.length_take]; rfl)) ?_; (with_reducible refine (treelabel_Assign.calls k _ _ y191 t194 t195 t196 _ ?side1 ?side2 A1.out).mono ?_); (case side1 => repeat (first | exact (Kd.R_reads' HO193.out).2.2 | (with_reducible refine Kd.C_alloc ?_ _) | (with_reducible refine Kd.C_drewN ?_ _) | (with_reducible refine Kd.C_drew ?_))); (case side2 => exact (Kd.R_reads' HO193.out).2.1); rintro e w17 ⟨v197, rfl, ho0, hb⟩; refine ⟨_, rfl, ?_⟩; have n0_ := Aside0.mk (Kd.R_below (by (with_reducible repeat (first | apply Kd.R_alloc | apply Kd.R_drewN | apply Kd.R_drew)); exact HO193.out) hb); have n1_ := Aside0.mk (Kd.R_lower ho0 (below_size (by repeat (first | (with_reducible first | exact HB.out | apply below_alloc | apply pw_below_drewN | apply below_drew1) | exact HB.out)))); have n2_ := Aside0.mk (below_step (by repeat (first | (with_reducible first | exact HB.out | apply below_alloc | apply pw_below_drewN | apply below_drew1) | exact HB.out)) hb); clear HO193; clear HB; have HO193 := n0_; have HO198 := n1_; have HB := n2_; clear n0_ n1_ n2_; (try clear hb); (try clear hb2); (try clear hk); (try clear hi); (try clear ho0)))
          have n0_ := Aside0.mk (Kd.R_drew HO193.out)
          have n1_ := Aside0.mk (Kd.R_drew HO198.out)
          have n2_ := Aside0.mk (below_drew1 HB.out)
          clear HO193
          clear HO198
          clear HB
          have HO193 := n0_
          have HO198 := n1_
          have HB := n2_
          clear n0_ n1_ n2_
          obtain ⟨Ao19, co19, eo19⟩ := Kd.R_slice HO198.out
          (first | subst eo19 | (injection eo19 with f1_ f2_ f3_; have f4_ := f1_.symm; have f5_ := f3_.symm; clear f1_ f2_ f3_; subst f4_; subst f5_))
          have p199 : 0 ≤ (1 : Int) := (by omega)
          have q199 : 1 < (t194.length : Int) := of_decide_eq_true (by first | (with_reducible assumption) | assumption)
          obtain ⟨ad199, e199, hx199_0, hx199_1, hx199_2⟩ := at_T41 (Kd.R_reads' HO198.out).2.2 1 p199 q199
          cases e199
          (try simp only [show (1 : Int).toNat = 1 from rfl, Nat.reduceMul, Nat.reduceEqDiff, Go.Addr.add, ↓reduceIte] at hx199_0)
          (try simp only [show (1 : Int).toNat = 1 from rfl, Nat.reduceMul, Nat.reduceEqDiff, Go.Addr.add, ↓reduceIte] at hx199_1)
          (try simp only [show (1 : Int).toNat = 1 from rfl, Nat.reduceMul, Nat.reduceEqDiff, Go.Addr.add, ↓reduceIte] at hx199_2)
          have qi199 : (1 < t194.length) = True := eq_true (by omega)
          (try rw [show ((1 : Int)).toNat = 1 from rfl] at hx199_0)
          (try rw [show 1 * 3 = 3 from rfl] at hx199_0)
          (try rw [show ((1 : Int)).toNat = 1 from rfl] at hx199_1)
          (try rw [show 1 * 3 = 3 from rfl] at hx199_1)
          (try rw [show ((1 : Int)).toNat = 1 from rfl] at hx199_2)
          (try rw [show 1 * 3 = 3 from rfl] at hx199_2)
          replace p199 := eq_true p199
          replace q199 := eq_true q199
          have p200 : 0 ≤ (1 : Int) := (by omega)
          have q200 : 1 < (t194.length : Int) := of_decide_eq_true (by first | (with_reducible assumption) | assumption)
          obtain ⟨ad200, e200, hx200_0, hx200_1, hx200_2⟩ := at_T41 (Kd.R_reads' HO198.out).2.2 1 p200 q200
          obtain rfl : ad199 = ad200 := (by injection e200)
          (try simp only [show (1 : Int).toNat = 1 from rfl, Nat.reduceMul, Nat.reduceEqDiff, Go.Addr.add, ↓reduceIte] at hx200_0)
          (try simp only [show (1 : Int).toNat = 1 from rfl, Nat.reduceMul, Nat.reduceEqDiff, Go.Addr.add, ↓reduceIte] at hx200_1)
          (try simp only [show (1 : Int).toNat = 1 from rfl, Nat.reduceMul, Nat.reduceEqDiff, Go.Addr.add, ↓reduceIte] at hx200_2)
          have qi200 : (1 < t194.length) = True := eq_true (by omega)
          (try rw [show ((1 : Int)).toNat = 1 from rfl] at hx200_0)
          (try rw [show 1 * 3 = 3 from rfl] at hx200_0)
          (try rw [show ((1 : Int)).toNat = 1 from rfl] at hx200_1)
          (try rw [show 1 * 3 = 3 from rfl] at hx200_1)
          (try rw [show ((1 : Int)).toNat = 1 from rfl] at hx200_2)
          (try rw [show 1 * 3 = 3 from rfl] at hx200_2)
          replace p200 := eq_true p200
          replace q200 := eq_true q200
          have p201 : 0 ≤ (3 : Int) := (by omega)
          have q201 : 3 < (t194.length : Int) := of_decide_eq_true (by first | (with_reducible assumption) | assumption)
          obtain ⟨ad201, e201, hx201_0, hx201_1, hx201_2⟩ := at_T41 (Kd.R_reads' HO198.out).2.2 3 p201 q201
          obtain rfl : ad199 = ad201 := (by injection e201)
          (try simp only [show (3 : Int).toNat = 3 from rfl, Nat.reduceMul, Nat.reduceEqDiff, Go.Addr.add, ↓reduceIte] at hx201_0)
          (try simp only [show (3 : Int).toNat = 3 from rfl, Nat.reduceMul, Nat.reduceEqDiff, Go.Addr.add, ↓reduceIte] at hx201_1)
          (try simp only [show (3 : Int).toNat = 3 from rfl, Nat.reduceMul, Nat.reduceEqDiff, Go.Addr.add, ↓reduceIte] at hx201_2)
          have qi201 : (3 < t194.length) = True := eq_true (by omega)
          (try rw [show ((3 : Int)).toNat = 3 from rfl] at hx201_0)
          (try rw [show 3 * 3 = 9 from rfl] at hx201_0)
          (try rw [show ((3 : Int)).toNat = 3 from rfl] at hx201_1)
          (try rw [show 3 * 3 = 9 from rfl] at hx201_1)
          (try rw [show ((3 : Int)).toNat = 3 from rfl] at hx201_2)
          (try rw [show 3 * 3 = 9 from rfl] at hx201_2)
          replace p201 := eq_true p201
          replace q201 := eq_true q201
          have p203 : 0 ≤ (1 : Int) := (by omega)
          have q203 : 1 < (t194.length : Int) := of_decide_eq_true (by first | (with_reducible assumption) | assumption)
          obtain ⟨ad203, e203, hx203_0, hx203_1, hx203_2⟩ := at_T41 (Kd.R_reads' HO198.out).2.2 1 p203 q203
          obtain rfl : ad199 = ad203 := (by injection e203)
          (try simp only [show (1 : Int).toNat = 1 from rfl, Nat.reduceMul, Nat.reduceEqDiff, Go.Addr.add, ↓reduceIte] at hx203_0)
          (try simp only [show (1 : Int).toNat = 1 from rfl, Nat.reduceMul, Nat.reduceEqDiff, Go.Addr.add, ↓reduceIte] at hx203_1)
          (try simp only [show (1 : Int).toNat = 1 from rfl, Nat.reduceMul, Nat.reduceEqDiff, Go.Addr.add, ↓reduceIte] at hx203_2)
          have qi203 : (1 < t194.length) = True := eq_true (by omega)
          (try rw [show ((1 : Int)).toNat = 1 from rfl] at hx203_0)
          (try rw [show 1 * 3 = 3 from rfl] at hx203_0)
          (try rw [show ((1 : Int)).toNat = 1 from rfl] at hx203_1)
          (try rw [show 1 * 3 = 3 from rfl] at hx203_1)
          (try rw [show ((1 : Int)).toNat = 1 from rfl] at hx203_2)
          (try rw [show 1 * 3 = 3 from rfl] at hx203_2)
          replace p203 := eq_true p203
          replace q203 := eq_true q203
          have p204 : 0 ≤ (2 : Int) := (by omega)
          have q204 : 2 < (t194.length : Int) := of_decide_eq_true (by first | (with_reducible assumption) | assumption)
          obtain ⟨ad204, e204, hx204_0, hx204_1, hx204_2⟩ := at_T41 (Kd.R_reads' HO198.out).2.2 2 p204 q204
          obtain rfl : ad199 = ad204 := (by injection e204)
          (try simp only [show (2 : Int).toNat = 2 from rfl, Nat.reduceMul, Nat.reduceEqDiff, Go.Addr.add, ↓reduceIte] at hx204_0)
          (try simp only [show (2 : Int).toNat = 2 from rfl, Nat.reduceMul, Nat.reduceEqDiff, Go.Addr.add, ↓reduceIte] at hx204_1)
          (try simp only [show (2 : Int).toNat = 2 from rfl, Nat.reduceMul, Nat.reduceEqDiff, Go.Addr.add, ↓reduceIte] at hx204_2)
          have qi204 : (2 < t194.length) = True := eq_true (by omega)
          (try rw [show ((2 : Int)).toNat = 2 from rfl] at hx204_0)
          (try rw [show 2 * 3 = 6 from rfl] at hx204_0)
          (try rw [show ((2 : Int)).toNat = 2 from rfl] at hx204_1)
          (try rw [show 2 * 3 = 6 from rfl] at hx204_1)
          (try rw [show ((2 : Int)).toNat = 2 from rfl] at hx204_2)
          (try rw [show 2 * 3 = 6 from rfl] at hx204_2)
          replace p204 := eq_true p204
          replace q204 := eq_true q204
          refine start_ (n := 42) (S := fun w' => w'.cell? ⟨ad199.block, ad199.off + 3, none⟩ = some (.int .i64 ((rd_T41 t194 1).f0)) ∧ w'.cell? ⟨ad199.block, ad199.off + 3 + 1, none⟩ = some (.int .i64 ((rd_T41 t194 1).f1)) ∧ w'.cell? ⟨ad199.block, ad199.off + 3 + 2, none⟩ = some (.int .i64 ((rd_T41 t194 1).f2)) ∧ w'.cell? ⟨ad199.block, ad199.off + 3, none⟩ = some (.int .i64 ((rd_T41 t194 1).f0)) ∧ w'.cell? ⟨ad199.block, ad199.off + 3 + 1, none⟩ = some (.int .i64 ((rd_T41 t194 1).f1)) ∧ w'.cell? ⟨ad199.block, ad199.off + 3 + 2, none⟩ = some (.int .i64 ((rd_T41 t194 1).f2)) ∧ w'.cell? ⟨ad199.block, ad199.off + 9, none⟩ = some (.int .i64 ((rd_T41 t194 3).f0)) ∧ w'.cell? ⟨ad199.block, ad199.off + 9 + 1, none⟩ = some (.int .i64 ((rd_T41 t194 3).f1)) ∧ w'.cell? ⟨ad199.block, ad199.off + 9 + 2, none⟩ = some (.int .i64 ((rd_T41 t194 3).f2)) ∧ w'.cell? ⟨ad199.block, ad199.off + 3, none⟩ = some (.int .i64 ((rd_T41 t194 1).f0)) ∧ w'.cell? ⟨ad199.block, ad199.off + 3 + 1, none⟩ = some (.int .i64 ((rd_T41 t194 1).f1)) ∧ w'.cell? ⟨ad199.block, ad199.off + 3 + 2, none⟩ = some (.int .i64 ((rd_T41 t194 1).f2)) ∧ w'.cell? ⟨ad199.block, ad199.off + 6, none⟩ = some (.int .i64 ((rd_T41 t194 2).f0)) ∧ w'.cell? ⟨ad199.block, ad199.off + 6 + 1, none⟩ = some (.int .i64 ((rd_T41 t194 2).f1)) ∧ w'.cell? ⟨ad199.block, ad199.off + 6 + 2, none⟩ = some (.int .i64 ((rd_T41 t194 2).f2))) (ds := []) #[false, false, false, false, false, false, false, false, false, false, false, false, false, false, false, false, false, false, false, false, false, false, false, false, false, false, false, false, false, false, false, false, false, false, false, false, false, false, false, false, false, false] (by kernel_rfl) rfl rfl ⟨hx199_0, hx199_1, hx199_2, hx200_0, hx200_1, hx200_2, hx201_0, hx201_1, hx201_2, hx203_0, hx203_1, hx203_2, hx204_0, hx204_1, hx204_2⟩ (fun hHeld => ?_); refine with_tabW corporalaw10_awake.tab2 corporalaw10_awake.bits2 (fun HT_ HW_ => ?_)
          generalize w17.drew = w18 at HO193 HO198 HB hx199_0 hx199_1 hx199_2 hx200_0 hx200_1 hx200_2 hx201_0 hx201_1 hx201_2 hx203_0 hx203_1 hx203_2 hx204_0 hx204_1 hx204_2 hHeld ⊢
          refine pure_ (i := 0) (N := some 10) (v := ?_) (a' := ?_) #[true, false, false, false, false, false, false, false, false, false, false, false, false, false, false, false, false, false, false, false, false, false, false, false, false, false, false, false, false, false, false, false, false, false, false, false, false, false, false, false, false, false] rfl rfl (any_of HT_.out (by kernel_rfl)) (fun _ _ _ h => h) (Or.inl ⟨by rfl, ?_⟩) ?_ ?_
          rotate_left
          ·intro w'
           go_simp
           with_reducible rfl
          rotate_left
          ·simp only [Act.put, List.setIfInBounds_toArray, List.set_cons_zero, List.set_cons_succ, i64_w, i32_w]
           rfl
          refine pure_ (i := 1) (N := some 11) (v := ?_) (a' := ?_) #[true, true, false, false, false, false, false, false, false, false, false, false, false, false, false, false, false, false, false, false, false, false, false, false, false, false, false, false, false, false, false, false, false, false, false, false, false, false, false, false, false, false] rfl rfl (any_of HT_.out (by kernel_rfl)) (fun _ _ _ h => h) (Or.inl ⟨by rfl, ?_⟩) ?_ ?_
          rotate_left
          ·intro w'
           go_simp
           with_reducible rfl
          rotate_left
          ·simp only [Act.put, List.setIfInBounds_toArray, List.set_cons_zero, List.set_cons_succ, i64_w, i32_w]
           rfl
          refine pure_ (i := 2) (N := some 12) (v := ?_) (a' := ?_) #[true, true, true, false, false, false, false, false, false, false, false, false, false, false, false, false, false, false, false, false, false, false, false, false, false, false, false, false, false, false, false, false, false, false, false, false, false, false, false, false, false, false] rfl rfl (any_of HT_.out (by kernel_rfl)) (fun _ _ _ h => h) (Or.inl ⟨by rfl, ?_⟩) ?_ ?_
          rotate_left
          ·intro w'
           go_simp
           with_reducible rfl
          rotate_left
          ·simp only [Act.put, List.setIfInBounds_toArray, List.set_cons_zero, List.set_cons_succ, i64_w, i32_w]
           rfl
          refine pure_ (i := 3) (N := some 13) (v := ?_) (a' := ?_) #[true, true, true, true, false, false, false, false, false, false, false, false, false, false, false, false, false, false, false, false, false, false, false, false, false, false, false, false, false, false, false, false, false, false, false, false, false, false, false, false, false, false] rfl rfl (any_of HT_.out (by kernel_rfl)) (fun _ _ _ h => h) (Or.inl ⟨by rfl, ?_⟩) ?_ ?_
          rotate_left
          ·intro w'
           go_simp
           with_reducible rfl
          rotate_left
          ·simp only [Act.put, List.setIfInBounds_toArray, List.set_cons_zero, List.set_cons_succ, i64_w, i32_w]
           rfl
          refine pure_ (i := 4) (N := some 14) (v := ?_) (a' := ?_) #[true, true, true, true, true, false, false, false, false, false, false, false, false, false, false, false, false, false, false, false, false, false, false, false, false, false, false, false, false, false, false, false, false, false, false, false, false, false, false, false, false, false] rfl rfl (any_of HT_.out (by kernel_rfl)) (fun _ _ _ h => h) (Or.inl ⟨by rfl, ?_⟩) ?_ ?_
          rotate_left
          ·intro w'
           go_simp
           with_reducible rfl
          rotate_left
          ·simp only [Act.put, List.setIfInBounds_toArray, List.set_cons_zero, List.set_cons_succ, i64_w, i32_w]
           rfl
          refine pure_ (i := 5) (N := some 15) (v := ?_) (a' := ?_) #[true, true, true, true, true, true, false, false, false, false, false, false, false, false, false, false, false, false, false, false, false, false, false, false, false, false, false, false, false, false, false, false, false, false, false, false, false, false, false, false, false, false] rfl rfl (any_of HT_.out (by kernel_rfl)) (fun _ _ _ h => h) (Or.inl ⟨by rfl, ?_⟩) ?_ ?_
          rotate_left
          ·intro w'
           go_simp
           with_reducible rfl
          rotate_left
          ·simp only [Act.put, List.setIfInBounds_toArray, List.set_cons_zero, List.set_cons_succ, i64_w, i32_w]
           rfl
          refine pure_ (i := 6) (N := some 16) (v := ?_) (a' := ?_) #[true, true, true, true, true, true, true, false, false, false, false, false, false, false, false, false, false, false, false, false, false, false, false, false, false, false, false, false, false, false, false, false, false, false, false, false, false, false, false, false, false, false] rfl rfl (any_of HT_.out (by kernel_rfl)) (fun _ _ _ h => h) (Or.inl ⟨by rfl, ?_⟩) ?_ ?_
          rotate_left
          ·intro w'
           go_simp
           with_reducible rfl
          rotate_left
          ·simp only [Act.put, List.setIfInBounds_toArray, List.set_cons_zero, List.set_cons_succ, i64_w, i32_w]
           rfl
          refine pure_ (i := 7) (N := some 17) (v := ?_) (a' := ?_) #[true, true, true, true, true, true, true, true, false, false, false, false, false, false, false, false, false, false, false, false, false, false, false, false, false, false, false, false, false, false, false, false, false, false, false, false, false, false, false, false, false, false] rfl rfl (any_of HT_.out (by kernel_rfl)) (fun _ _ _ h => h) (Or.inl ⟨by rfl, ?_⟩) ?_ ?_
          rotate_left
          ·intro w'
           go_simp
           with_reducible rfl
          rotate_left
          ·simp only [Act.put, List.setIfInBounds_toArray, List.set_cons_zero, List.set_cons_succ, i64_w, i32_w]
           rfl
          refine pure_ (i := 8) (N := some 18) (v := ?_) (a' := ?_) #[true, true, true, true, true, true, true, true, true, false, false, false, false, false, false, false, false, false, false, false, false, false, false, false, false, false, false, false, false, false, false, false, false, false, false, false, false, false, false, false, false, false] rfl rfl (any_of HT_.out (by kernel_rfl)) (fun _ _ _ h => h) (Or.inl ⟨by rfl, ?_⟩) ?_ ?_
          rotate_left
          ·intro w'
           go_simp
           with_reducible rfl
          rotate_left
          ·simp only [Act.put, List.setIfInBounds_toArray, List.set_cons_zero, List.set_cons_succ, i64_w, i32_w]
           rfl
          refine pure_ (i := 9) (N := some 19) (v := ?_) (a' := ?_) #[true, true, true, true, true, true, true, true, true, true, false, false, false, false, false, false, false, false, false, false, false, false, false, false, false, false, false, false, false, false, false, false, false, false, false, false, false, false, false, false, false, false] rfl rfl (any_of HT_.out (by kernel_rfl)) (fun _ _ _ h => h) (Or.inl ⟨by rfl, ?_⟩) ?_ ?_
          rotate_left
          ·intro w'
           go_simp
           with_reducible rfl
          rotate_left
          ·simp only [Act.put, List.setIfInBounds_toArray, List.set_cons_zero, List.set_cons_succ, i64_w, i32_w]
           rfl
          refine pure_ (i := 10) (N := some 20) (v := ?_) (a' := ?_) #[true, true, true, true, true, true, true, true, true, true, true, false, false, false, false, false, false, false, false, false, false, false, false, false, false, false, false, false, false, false, false, false, false, false, false, false, false, false, false, false, false, false] rfl rfl (any_of HT_.out (by kernel_rfl)) (fun _ _ _ h => h) (Or.inl ⟨by rfl, ?_⟩) ?_ ?_
          rotate_left
          ·intro w'
           go_simp
           with_reducible rfl
          rotate_left
          ·simp only [Act.put, List.setIfInBounds_toArray, List.set_cons_zero, List.set_cons_succ, i64_w, i32_w]
           rfl
          refine pure_ (i := 11) (N := some 21) (v := ?_) (a' := ?_) #[true, true, true, true, true, true, true, true, true, true, true, true, false, false, false, false, false, false, false, false, false, false, false, false, false, false, false, false, false, false, false, false, false, false, false, false, false, false, false, false, false, false] rfl rfl (any_of HT_.out (by kernel_rfl)) (fun _ _ _ h => h) (Or.inl ⟨by rfl, ?_⟩) ?_ ?_
          rotate_left
          ·intro w'
           go_simp
           with_reducible rfl
          rotate_left
          ·simp only [Act.put, List.setIfInBounds_toArray, List.set_cons_zero, List.set_cons_succ, i64_w, i32_w]
           rfl
          refine pure_ (i := 12) (N := some 22) (v := ?_) (a' := ?_) #[true, true, true, true, true, true, true, true, true, true, true, true, true, false, false, false, false, false, false, false, false, false, false, false, false, false, false, false, false, false, false, false, false, false, false, false, false, false, false, false, false, false] rfl rfl (any_of HT_.out (by kernel_rfl)) (fun _ _ _ h => h) (Or.inl ⟨by rfl, ?_⟩) ?_ ?_
          rotate_left
          ·intro w'
           go_simp
           with_reducible rfl
          rotate_left
          ·simp only [Act.put, List.setIfInBounds_toArray, List.set_cons_zero, List.set_cons_succ, i64_w, i32_w]
           rfl
          refine pure_ (i := 13) (N := some 23) (v := ?_) (a' := ?_) #[true, true, true, true, true, true, true, true, true, true, true, true, true, true, false, false, false, false, false, false, false, false, false, false, false, false, false, false, false, false, false, false, false, false, false, false, false, false, false, false, false, false] rfl rfl (any_of HT_.out (by kernel_rfl)) (fun _ _ _ h => h) (Or.inl ⟨by rfl, ?_⟩) ?_ ?_
          rotate_left
          ·intro w'
           go_simp
           with_reducible rfl
          rotate_left
          ·simp only [Act.put, List.setIfInBounds_toArray, List.set_cons_zero, List.set_cons_succ, i64_w, i32_w]
           rfl
          refine pure_ (i := 15) (N := some 25) (v := ?_) (a' := ?_) #[true, true, true, true, true, true, true, true, true, true, true, true, true, true, false, true, false, false, false, false, false, false, false, false, false, false, false, false, false, false, false, false, false, false, false, false, false, false, false, false, false, false] rfl rfl (any_of HT_.out (by kernel_rfl)) (fun _ _ _ h => h) (Or.inl ⟨by rfl, ?_⟩) ?_ ?_
          rotate_left
          ·intro w'
           go_simp
           with_reducible rfl
          rotate_left
          ·simp only [Act.put, List.setIfInBounds_toArray, List.set_cons_zero, List.set_cons_succ, i64_w, i32_w]
           rfl
          refine take_ (i := 14) (N := some 24) (v := ?_) (a' := ?_) #[true, true, true, true, true, true, true, true, true, true, true, true, true, true, true, true, false, false, false, false, false, false, false, false, false, false, false, false, false, false, false, false, false, false, false, false, false, false, false, false, false, false] rfl rfl (take_ofW HT_.out HW_.out (by kernel_rfl)) (fun _ _ _ h => h) (Or.inl ⟨by rfl, ?_⟩) hHeld ?_ ?_
          rotate_left
          ·rintro w' ⟨s0, s1, s2, s3, s4, s5, s6, s7, s8, s9, s10, s11, s12, s13, s14⟩
           go_simp
           with_reducible rfl
          rotate_left
          ·simp only [Act.put, List.setIfInBounds_toArray, List.set_cons_zero, List.set_cons_succ, i64_w, i32_w]
           rfl
          refine pure_ (i := 16) (N := some 26) (v := ?_) (a' := ?_) #[true, true, true, true, true, true, true, true, true, true, true, true, true, true, true, true, true, false, false, false, false, false, false, false, false, false, false, false, false, false, false, false, false, false, false, false, false, false, false, false, false, false] rfl rfl (any_of HT_.out (by kernel_rfl)) (fun _ _ _ h => h) (Or.inl ⟨by rfl, ?_⟩) ?_ ?_
          rotate_left
          ·intro w'
           go_simp
           with_reducible rfl
          rotate_left
          ·simp only [Act.put, List.setIfInBounds_toArray, List.set_cons_zero, List.set_cons_succ, i64_w, i32_w]
           rfl
          refine pure_ (i := 17) (N := some 27) (v := ?_) (a' := ?_) #[true, true, true, true, true, true, true, true, true, true, true, true, true, true, true, true, true, true, false, false, false, false, false, false, false, false, false, false, false, false, false, false, false, false, false, false, false, false, false, false, false, false] rfl rfl (any_of HT_.out (by kernel_rfl)) (fun _ _ _ h => h) (Or.inl ⟨by rfl, ?_⟩) ?_ ?_
          rotate_left
          ·intro w'
           go_simp
           with_reducible rfl
          rotate_left
          ·simp only [Act.put, List.setIfInBounds_toArray, List.set_cons_zero, List.set_cons_succ, i64_w, i32_w]
           rfl
          refine pure_ (i := 18) (N := some 28) (v := ?_) (a' := ?_) #[true, true, true, true, true, true, true, true, true, true, true, true, true, true, true, true, true, true, true, false, false, false, false, false, false, false, false, false, false, false, false, false, false, false, false, false, false, false, false, false, false, false] rfl rfl (any_of HT_.out (by kernel_rfl)) (fun _ _ _ h => h) (Or.inl ⟨by rfl, ?_⟩) ?_ ?_
          rotate_left
          ·intro w'
           go_simp
           with_reducible rfl
          rotate_left
          ·simp only [Act.put, List.setIfInBounds_toArray, List.set_cons_zero, List.set_cons_succ, i64_w, i32_w]
           rfl
          refine pure_ (i := 19) (N := some 29) (v := ?_) (a' := ?_) #[true, true, true, true, true, true, true, true, true, true, true, true, true, true, true, true, true, true, true, true, false, false, false, false, false, false, false, false, false, false, false, false, false, false, false, false, false, false, false, false, false, false] rfl rfl (any_of HT_.out (by kernel_rfl)) (fun _ _ _ h => h) (Or.inl ⟨by rfl, ?_⟩) ?_ ?_
          rotate_left
          ·intro w'
           go_simp
           with_reducible rfl
          rotate_left
          ·simp only [Act.put, List.setIfInBounds_toArray, List.set_cons_zero, List.set_cons_succ, i64_w, i32_w]
           rfl
          refine pure_ (i := 20) (N := some 30) (v := ?_) (a' := ?_) #[true, true, true, true, true, true, true, true, true, true, true, true, true, true, true, true, true, true, true, true, true, false, false, false, false, false, false, false, false, false, false, false, false, false, false, false, false, false, false, false, false, false] rfl rfl (any_of HT_.out (by kernel_rfl)) (fun _ _ _ h => h) (Or.inl ⟨by rfl, ?_⟩) ?_ ?_
          rotate_left
          ·intro w'
           go_simp
           with_reducible rfl
          rotate_left
          ·simp only [Act.put, List.setIfInBounds_toArray, List.set_cons_zero, List.set_cons_succ, i64_w, i32_w]
           rfl
          refine pure_ (i := 22) (N := some 32) (v := ?_) (a' := ?_) #[true, true, true, true, true, true, true, true, true, true, true, true, true, true, true, true, true, true, true, true, true, false, true, false, false, false, false, false, false, false, false, false, false, false, false, false, false, false, false, false, false, false] rfl rfl (any_of HT_.out (by kernel_rfl)) (fun _ _ _ h => h) (Or.inl ⟨by rfl, ?_⟩) ?_ ?_
          rotate_left
          ·intro w'
           go_simp
           with_reducible rfl
          rotate_left
          ·simp only [Act.put, List.setIfInBounds_toArray, List.set_cons_zero, List.set_cons_succ, i64_w, i32_w]
           rfl
          refine pure_ (i := 23) (N := some 33) (v := ?_) (a' := ?_) #[true, true, true, true, true, true, true, true, true, true, true, true, true, true, true, true, true, true, true, true, true, false, true, true, false, false, false, false, false, false, false, false, false, false, false, false, false, false, false, false, false, false] rfl rfl (any_of HT_.out (by kernel_rfl)) (fun _ _ _ h => h) (Or.inl ⟨by rfl, ?_⟩) ?_ ?_
          rotate_left
          ·intro w'
           go_simp
           with_reducible rfl
          rotate_left
          ·simp only [Act.put, List.setIfInBounds_toArray, List.set_cons_zero, List.set_cons_succ, i64_w, i32_w]
           rfl
          refine take_ (i := 21) (N := some 31) (v := ?_) (a' := ?_) #[true, true, true, true, true, true, true, true, true, true, true, true, true, true, true, true, true, true, true, true, true, true, true, true, false, false, false, false, false, false, false, false, false, false, false, false, false, false, false, false, false, false] rfl rfl (take_ofW HT_.out HW_.out (by kernel_rfl)) (fun _ _ _ h => h) (Or.inl ⟨by rfl, ?_⟩) hHeld ?_ ?_
          rotate_left
          ·rintro w' ⟨s0, s1, s2, s3, s4, s5, s6, s7, s8, s9, s10, s11, s12, s13, s14⟩
           go_simp
           with_reducible rfl
          rotate_left
          ·simp only [Act.put, List.setIfInBounds_toArray, List.set_cons_zero, List.set_cons_succ, i64_w, i32_w]
           rfl
          refine take_ (i := 24) (N := some 34) (v := ?_) (a' := ?_) #[true, true, true, true, true, true, true, true, true, true, true, true, true, true, true, true, true, true, true, true, true, true, true, true, true, false, false, false, false, false, false, false, false, false, false, false, false, false, false, false, false, false] rfl rfl (take_ofW HT_.out HW_.out (by kernel_rfl)) (fun _ _ _ h => h) (Or.inl ⟨by rfl, ?_⟩) hHeld ?_ ?_
          rotate_left
          ·rintro w' ⟨s0, s1, s2, s3, s4, s5, s6, s7, s8, s9, s10, s11, s12, s13, s14⟩
           go_simp
           with_reducible rfl
          rotate_left
          ·simp only [Act.put, List.setIfInBounds_toArray, List.set_cons_zero, List.set_cons_succ, i64_w, i32_w]
           rfl
          refine one_ (i := 25) (N := some 35) #[true, true, true, true, true, true, true, true, true, true, true, true, true, true, true, true, true, true, true, true, true, true, true, true, true, true, false, false, false, false, false, false, false, false, false, false, false, false, false, false, false, false] rfl rfl (one_of HT_.out (by kernel_rfl)) (by decide) (fun K hK => ?_)
          refine goes_ Try.func20 (by kernel_rfl) rfl #[.agg #[.int .i64 ((rd_T41 t194 1).f0), .int .i64 ((rd_T41 t194 1).f1), .int .i64 ((rd_T41 t194 1).f2)], .agg #[.int .i64 ((rd_T41 t194 3).f0), .int .i64 ((rd_T41 t194 3).f1), .int .i64 ((rd_T41 t194 3).f2)]] (by rfl) rfl rfl (by (try simp only [List.map_toArray, List.map_cons, List.map_nil]); first | done | rfl | (simp only [List.length_drop, List.length_take]; rfl)) ?_
          with_reducible refine (treelabel_Dominates.calls ((rd_T41 t194 1).f0) ((rd_T41 t194 1).f1) ((rd_T41 t194 1).f2) ((rd_T41 t194 3).f0) ((rd_T41 t194 3).f1) ((rd_T41 t194 3).f2) true _ A8.out).mono ?_
          rintro e w20 ⟨rfl, hb⟩
          have HS0_ := (hb.cell (World.block_lt_of_cell? _ _ (hHeld.1))).trans (hHeld.1)
          have HS1_ := (hb.cell (World.block_lt_of_cell? _ _ (hHeld.2.1))).trans (hHeld.2.1)
          have HS2_ := (hb.cell (World.block_lt_of_cell? _ _ (hHeld.2.2.1))).trans (hHeld.2.2.1)
          have HS3_ := (hb.cell (World.block_lt_of_cell? _ _ (hHeld.2.2.2.1))).trans (hHeld.2.2.2.1)
          have HS4_ := (hb.cell (World.block_lt_of_cell? _ _ (hHeld.2.2.2.2.1))).trans (hHeld.2.2.2.2.1)
          have HS5_ := (hb.cell (World.block_lt_of_cell? _ _ (hHeld.2.2.2.2.2.1))).trans (hHeld.2.2.2.2.2.1)
          have HS6_ := (hb.cell (World.block_lt_of_cell? _ _ (hHeld.2.2.2.2.2.2.1))).trans (hHeld.2.2.2.2.2.2.1)
          have HS7_ := (hb.cell (World.block_lt_of_cell? _ _ (hHeld.2.2.2.2.2.2.2.1))).trans (hHeld.2.2.2.2.2.2.2.1)
          have HS8_ := (hb.cell (World.block_lt_of_cell? _ _ (hHeld.2.2.2.2.2.2.2.2.1))).trans (hHeld.2.2.2.2.2.2.2.2.1)
          have HS9_ := (hb.cell (World.block_lt_of_cell? _ _ (hHeld.2.2.2.2.2.2.2.2.2.1))).trans (hHeld.2.2.2.2.2.2.2.2.2.1)
          have HS10_ := (hb.cell (World.block_lt_of_cell? _ _ (hHeld.2.2.2.2.2.2.2.2.2.2.1))).trans (hHeld.2.2.2.2.2.2.2.2.2.2.1)
          have HS11_ := (hb.cell (World.block_lt_of_cell? _ _ (hHeld.2.2.2.2.2.2.2.2.2.2.2.1))).trans (hHeld.2.2.2.2.2.2.2.2.2.2.2.1)
          have HS12_ := (hb.cell (World.block_lt_of_cell? _ _ (hHeld.2.2.2.2.2.2.2.2.2.2.2.2.1))).trans (hHeld.2.2.2.2.2.2.2.2.2.2.2.2.1)
          have HS13_ := (hb.cell (World.block_lt_of_cell? _ _ (hHeld.2.2.2.2.2.2.2.2.2.2.2.2.2.1))).trans (hHeld.2.2.2.2.2.2.2.2.2.2.2.2.2.1)
          have HS14_ := (hb.cell (World.block_lt_of_cell? _ _ (hHeld.2.2.2.2.2.2.2.2.2.2.2.2.2.2))).trans (hHeld.2.2.2.2.2.2.2.2.2.2.2.2.2.2)
          refine ⟨_, rfl, ?_⟩
          have n0_ := Aside0.mk (Kd.R_below (by (with_reducible repeat (first | apply Kd.R_alloc | apply Kd.R_drewN | apply Kd.R_drew)); exact HO193.out) hb)
          have n1_ := Aside0.mk (Kd.R_below (by (with_reducible repeat (first | apply Kd.R_alloc | apply Kd.R_drewN | apply Kd.R_drew)); exact HO198.out) hb)
          have n2_ := Aside0.mk (below_step (by repeat (first | (with_reducible first | exact HB.out | apply below_alloc | apply pw_below_drewN | apply below_drew1) | exact HB.out)) hb)
          clear HO193
          clear HO198
          clear HB
          have HO193 := n0_
          have HO198 := n1_
          have HB := n2_
          clear n0_ n1_ n2_
          (try clear hb)
          (try clear hb2)
          (try clear hk)
          (try clear hi)
          refine hK.out _ _ ⟨HS0_, HS1_, HS2_, HS3_, HS4_, HS5_, HS6_, HS7_, HS8_, HS9_, HS10_, HS11_, HS12_, HS13_, HS14_⟩ (fun hHeld => ?_)
          clear hK K
          refine norm_ (a' := ?_) ?_ ?_
          rotate_left
          ·show Act.put _ (some 35) _ = _
           simp only [Act.put, List.setIfInBounds_toArray, List.set_cons_zero, List.set_cons_succ, i64_w, i32_w]
           rfl
          refine pure_ (i := 26) (N := some 36) (v := ?_) (a' := ?_) #[true, true, true, true, true, true, true, true, true, true, true, true, true, true, true, true, true, true, true, true, true, true, true, true, true, true, true, false, false, false, false, false, false, false, false, false, false, false, false, false, false, false] rfl rfl (any_of HT_.out (by kernel_rfl)) (fun _ _ _ h => h) (Or.inl ⟨by rfl, ?_⟩) ?_ ?_
          rotate_left
          ·intro w'
           go_simp
           with_reducible rfl
          rotate_left
          ·simp only [Act.put, List.setIfInBounds_toArray, List.set_cons_zero, List.set_cons_succ, i64_w, i32_w]
           rfl
          refine pure_ (i := 27) (N := some 37) (v := ?_) (a' := ?_) #[true, true, true, true, true, true, true, true, true, true, true, true, true, true, true, true, true, true, true, true, true, true, true, true, true, true, true, true, false, false, false, false, false, false, false, false, false, false, false, false, false, false] rfl rfl (any_of HT_.out (by kernel_rfl)) (fun _ _ _ h => h) (Or.inl ⟨by rfl, ?_⟩) ?_ ?_
          rotate_left
          ·intro w'
           go_simp
           with_reducible rfl
          rotate_left
          ·simp only [Act.put, List.setIfInBounds_toArray, List.set_cons_zero, List.set_cons_succ, i64_w, i32_w]
           rfl
          refine pure_ (i := 28) (N := some 38) (v := ?_) (a' := ?_) #[true, true, true, true, true, true, true, true, true, true, true, true, true, true, true, true, true, true, true, true, true, true, true, true, true, true, true, true, true, false, false, false, false, false, false, false, false, false, false, false, false, false] rfl rfl (any_of HT_.out (by kernel_rfl)) (fun _ _ _ h => h) (Or.inl ⟨by rfl, ?_⟩) ?_ ?_
          rotate_left
          ·intro w'
           go_simp
           with_reducible rfl
          rotate_left
          ·simp only [Act.put, List.setIfInBounds_toArray, List.set_cons_zero, List.set_cons_succ, i64_w, i32_w]
           rfl
          refine pure_ (i := 29) (N := some 39) (v := ?_) (a' := ?_) #[true, true, true, true, true, true, true, true, true, true, true, true, true, true, true, true, true, true, true, true, true, true, true, true, true, true, true, true, true, true, false, false, false, false, false, false, false, false, false, false, false, false] rfl rfl (any_of HT_.out (by kernel_rfl)) (fun _ _ _ h => h) (Or.inl ⟨by rfl, ?_⟩) ?_ ?_
          rotate_left
          ·intro w'
           go_simp
           with_reducible rfl
          rotate_left
          ·simp only [Act.put, List.setIfInBounds_toArray, List.set_cons_zero, List.set_cons_succ, i64_w, i32_w]
           rfl
          refine pure_ (i := 31) (N := some 41) (v := ?_) (a' := ?_) #[true, true, true, true, true, true, true, true, true, true, true, true, true, true, true, true, true, true, true, true, true, true, true, true, true, true, true, true, true, true, false, true, false, false, false, false, false, false, false, false, false, false] rfl rfl (any_of HT_.out (by kernel_rfl)) (fun _ _ _ h => h) (Or.inl ⟨by rfl, ?_⟩) ?_ ?_
          rotate_left
          ·intro w'
           go_simp
           with_reducible rfl
          rotate_left
          ·simp only [Act.put, List.setIfInBounds_toArray, List.set_cons_zero, List.set_cons_succ, i64_w, i32_w]
           rfl
          refine pure_ (i := 32) (N := some 42) (v := ?_) (a' := ?_) #[true, true, true, true, true, true, true, true, true, true, true, true, true, true, true, true, true, true, true, true, true, true, true, true, true, true, true, true, true, true, false, true, true, false, false, false, false, false, false, false, false, false] rfl rfl (any_of HT_.out (by kernel_rfl)) (fun _ _ _ h => h) (Or.inl ⟨by rfl, ?_⟩) ?_ ?_
          rotate_left
          ·intro w'
           go_simp
           with_reducible rfl
          rotate_left
          ·simp only [Act.put, List.setIfInBounds_toArray, List.set_cons_zero, List.set_cons_succ, i64_w, i32_w]
           rfl
          refine take_ (i := 30) (N := some 40) (v := ?_) (a' := ?_) #[true, true, true, true, true, true, true, true, true, true, true, true, true, true, true, true, true, true, true, true, true, true, true, true, true, true, true, true, true, true, true, true, true, false, false, false, false, false, false, false, false, false] rfl rfl (take_ofW HT_.out HW_.out (by kernel_rfl)) (fun _ _ _ h => h) (Or.inl ⟨by rfl, ?_⟩) hHeld ?_ ?_
          rotate_left
          ·rintro w' ⟨s0, s1, s2, s3, s4, s5, s6, s7, s8, s9, s10, s11, s12, s13, s14⟩
           go_simp
           with_reducible rfl
          rotate_left
          ·simp only [Act.put, List.setIfInBounds_toArray, List.set_cons_zero, List.set_cons_succ, i64_w, i32_w]
           rfl
          refine take_ (i := 33) (N := some 43) (v := ?_) (a' := ?_) #[true, true, true, true, true, true, true, true, true, true, true, true, true, true, true, true, true, true, true, true, true, true, true, true, true, true, true, true, true, true, true, true, true, true, false, false, false, false, false, false, false, false] rfl rfl (take_ofW HT_.out HW_.out (by kernel_rfl)) (fun _ _ _ h => h) (Or.inl ⟨by rfl, ?_⟩) hHeld ?_ ?_
          rotate_left
          ·rintro w' ⟨s0, s1, s2, s3, s4, s5, s6, s7, s8, s9, s10, s11, s12, s13, s14⟩
           go_simp
           with_reducible rfl
          rotate_left
          ·simp only [Act.put, List.setIfInBounds_toArray, List.set_cons_zero, List.set_cons_succ, i64_w, i32_w]
           rfl
          refine one_ (i := 34) (N := some 44) #[true, true, true, true, true, true, true, true, true, true, true, true, true, true, true, true, true, true, true, true, true, true, true, true, true, true, true, true, true, true, true, true, true, true, true, false, false, false, false, false, false, false] rfl rfl (one_of HT_.out (by kernel_rfl)) (by decide) (fun K hK => ?_)
          refine goes_ Try.func21 (by kernel_rfl) rfl #[.agg #[.int .i64 ((rd_T41 t194 1).f0), .int .i64 ((rd_T41 t194 1).f1), .int .i64 ((rd_T41 t194 1).f2)], .agg #[.int .i64 ((rd_T41 t194 2).f0), .int .i64 ((rd_T41 t194 2).f1), .int .i64 ((rd_T41 t194 2).f2)]] (by rfl) rfl rfl (by (try simp only [List.map_toArray, List.map_cons, List.map_nil]); first | done | rfl | (simp only [List.length_drop, List.length_take]; rfl)) ?_
          with_reducible refine (treelabel_Precedes.calls ((rd_T41 t194 1).f0) ((rd_T41 t194 1).f1) ((rd_T41 t194 1).f2) ((rd_T41 t194 2).f0) ((rd_T41 t194 2).f1) ((rd_T41 t194 2).f2) true _ A11.out).mono ?_
          rintro e w21 ⟨rfl, hb⟩
          have HS0_ := (hb.cell (World.block_lt_of_cell? _ _ (hHeld.1))).trans (hHeld.1)
          have HS1_ := (hb.cell (World.block_lt_of_cell? _ _ (hHeld.2.1))).trans (hHeld.2.1)
          have HS2_ := (hb.cell (World.block_lt_of_cell? _ _ (hHeld.2.2.1))).trans (hHeld.2.2.1)
          have HS3_ := (hb.cell (World.block_lt_of_cell? _ _ (hHeld.2.2.2.1))).trans (hHeld.2.2.2.1)
          have HS4_ := (hb.cell (World.block_lt_of_cell? _ _ (hHeld.2.2.2.2.1))).trans (hHeld.2.2.2.2.1)
          have HS5_ := (hb.cell (World.block_lt_of_cell? _ _ (hHeld.2.2.2.2.2.1))).trans (hHeld.2.2.2.2.2.1)
          have HS6_ := (hb.cell (World.block_lt_of_cell? _ _ (hHeld.2.2.2.2.2.2.1))).trans (hHeld.2.2.2.2.2.2.1)
          have HS7_ := (hb.cell (World.block_lt_of_cell? _ _ (hHeld.2.2.2.2.2.2.2.1))).trans (hHeld.2.2.2.2.2.2.2.1)
          have HS8_ := (hb.cell (World.block_lt_of_cell? _ _ (hHeld.2.2.2.2.2.2.2.2.1))).trans (hHeld.2.2.2.2.2.2.2.2.1)
          have HS9_ := (hb.cell (World.block_lt_of_cell? _ _ (hHeld.2.2.2.2.2.2.2.2.2.1))).trans (hHeld.2.2.2.2.2.2.2.2.2.1)
          have HS10_ := (hb.cell (World.block_lt_of_cell? _ _ (hHeld.2.2.2.2.2.2.2.2.2.2.1))).trans (hHeld.2.2.2.2.2.2.2.2.2.2.1)
          have HS11_ := (hb.cell (World.block_lt_of_cell? _ _ (hHeld.2.2.2.2.2.2.2.2.2.2.2.1))).trans (hHeld.2.2.2.2.2.2.2.2.2.2.2.1)
          have HS12_ := (hb.cell (World.block_lt_of_cell? _ _ (hHeld.2.2.2.2.2.2.2.2.2.2.2.2.1))).trans (hHeld.2.2.2.2.2.2.2.2.2.2.2.2.1)
          have HS13_ := (hb.cell (World.block_lt_of_cell? _ _ (hHeld.2.2.2.2.2.2.2.2.2.2.2.2.2.1))).trans (hHeld.2.2.2.2.2.2.2.2.2.2.2.2.2.1)
          have HS14_ := (hb.cell (World.block_lt_of_cell? _ _ (hHeld.2.2.2.2.2.2.2.2.2.2.2.2.2.2))).trans (hHeld.2.2.2.2.2.2.2.2.2.2.2.2.2.2)
          refine ⟨_, rfl, ?_⟩
          have n0_ := Aside0.mk (Kd.R_below (by (with_reducible repeat (first | apply Kd.R_alloc | apply Kd.R_drewN | apply Kd.R_drew)); exact HO193.out) hb)
          have n1_ := Aside0.mk (Kd.R_below (by (with_reducible repeat (first | apply Kd.R_alloc | apply Kd.R_drewN | apply Kd.R_drew)); exact HO198.out) hb)
          have n2_ := Aside0.mk (below_step (by repeat (first | (with_reducible first | exact HB.out | apply below_alloc | apply pw_below_drewN | apply below_drew1) | exact HB.out)) hb)
          clear HO193
          clear HO198
          clear HB
          have HO193 := n0_
          have HO198 := n1_
          have HB := n2_
          clear n0_ n1_ n2_
          (try clear hb)
          (try clear hb2)
          (try clear hk)
          (try clear hi)
          refine hK.out _ _ ⟨HS0_, HS1_, HS2_, HS3_, HS4_, HS5_, HS6_, HS7_, HS8_, HS9_, HS10_, HS11_, HS12_, HS13_, HS14_⟩ (fun hHeld => ?_)
          clear hK K
          refine norm_ (a' := ?_) ?_ ?_
          rotate_left
          ·show Act.put _ (some 44) _ = _
           simp only [Act.put, List.setIfInBounds_toArray, List.set_cons_zero, List.set_cons_succ, i64_w, i32_w]
           rfl
          refine pure_ (i := 35) (N := some 45) (v := ?_) (a' := ?_) #[true, true, true, true, true, true, true, true, true, true, true, true, true, true, true, true, true, true, true, true, true, true, true, true, true, true, true, true, true, true, true, true, true, true, true, true, false, false, false, false, false, false] rfl rfl (any_of HT_.out (by kernel_rfl)) (fun _ _ _ h => h) (Or.inl ⟨by rfl, ?_⟩) ?_ ?_
          rotate_left
          ·intro w'
           go_simp
           with_reducible rfl
          rotate_left
          ·simp only [Act.put, List.setIfInBounds_toArray, List.set_cons_zero, List.set_cons_succ, i64_w, i32_w]
           rfl
          refine pure_ (i := 36) (N := some 46) (v := ?_) (a' := ?_) #[true, true, true, true, true, true, true, true, true, true, true, true, true, true, true, true, true, true, true, true, true, true, true, true, true, true, true, true, true, true, true, true, true, true, true, true, true, false, false, false, false, false] rfl rfl (any_of HT_.out (by kernel_rfl)) (fun _ _ _ h => h) (Or.inl ⟨by rfl, ?_⟩) ?_ ?_
          rotate_left
          ·intro w'
           go_simp
           with_reducible rfl
          rotate_left
          ·simp only [Act.put, List.setIfInBounds_toArray, List.set_cons_zero, List.set_cons_succ, i64_w, i32_w]
           rfl
          refine pure_ (i := 37) (N := some 47) (v := ?_) (a' := ?_) #[true, true, true, true, true, true, true, true, true, true, true, true, true, true, true, true, true, true, true, true, true, true, true, true, true, true, true, true, true, true, true, true, true, true, true, true, true, true, false, false, false, false] rfl rfl (any_of HT_.out (by kernel_rfl)) (fun _ _ _ h => h) (Or.inl ⟨by rfl, ?_⟩) ?_ ?_
          rotate_left
          ·intro w'
           go_simp
           with_reducible rfl
          rotate_left
          ·simp only [Act.put, List.setIfInBounds_toArray, List.set_cons_zero, List.set_cons_succ, i64_w, i32_w]
           rfl
          refine one_ (i := 38) (N := some 48) #[true, true, true, true, true, true, true, true, true, true, true, true, true, true, true, true, true, true, true, true, true, true, true, true, true, true, true, true, true, true, true, true, true, true, true, true, true, true, true, false, false, false] rfl rfl (one_of HT_.out (by kernel_rfl)) (by decide) (fun K hK => ?_)
          refine goes_ Try.func26 (by kernel_rfl) rfl #[.slice (some ad199) t194.length co19, .int .i64 3, .int .i64 2] (by rfl) rfl rfl (by (try simp only [List.map_toArray, List.map_cons, List.map_nil]); first | done | rfl | (simp only [List.length_drop, List.length_take]; rfl)) ?_
          with_reducible refine (treelabel_Common.calls k _ _ t194 3 2 t206 _ ?side1 ?side2 A13.out).mono ?_
          (case side1 => repeat (first | exact (Kd.R_reads' HO198.out).2.2 | (with_reducible refine Kd.C_alloc ?_ _) | (with_reducible refine Kd.C_drewN ?_ _) | (with_reducible refine Kd.C_drew ?_)))
          (case side2 => exact (Kd.R_reads' HO198.out).2.1)
          rintro e w22 ⟨rfl, hb⟩
          have HS0_ := (hb.cell (World.block_lt_of_cell? _ _ (hHeld.1))).trans (hHeld.1)
          have HS1_ := (hb.cell (World.block_lt_of_cell? _ _ (hHeld.2.1))).trans (hHeld.2.1)
          have HS2_ := (hb.cell (World.block_lt_of_cell? _ _ (hHeld.2.2.1))).trans (hHeld.2.2.1)
          have HS3_ := (hb.cell (World.block_lt_of_cell? _ _ (hHeld.2.2.2.1))).trans (hHeld.2.2.2.1)
          have HS4_ := (hb.cell (World.block_lt_of_cell? _ _ (hHeld.2.2.2.2.1))).trans (hHeld.2.2.2.2.1)
          have HS5_ := (hb.cell (World.block_lt_of_cell? _ _ (hHeld.2.2.2.2.2.1))).trans (hHeld.2.2.2.2.2.1)
          have HS6_ := (hb.cell (World.block_lt_of_cell? _ _ (hHeld.2.2.2.2.2.2.1))).trans (hHeld.2.2.2.2.2.2.1)
          have HS7_ := (hb.cell (World.block_lt_of_cell? _ _ (hHeld.2.2.2.2.2.2.2.1))).trans (hHeld.2.2.2.2.2.2.2.1)
          have HS8_ := (hb.cell (World.block_lt_of_cell? _ _ (hHeld.2.2.2.2.2.2.2.2.1))).trans (hHeld.2.2.2.2.2.2.2.2.1)
          have HS9_ := (hb.cell (World.block_lt_of_cell? _ _ (hHeld.2.2.2.2.2.2.2.2.2.1))).trans (hHeld.2.2.2.2.2.2.2.2.2.1)
          have HS10_ := (hb.cell (World.block_lt_of_cell? _ _ (hHeld.2.2.2.2.2.2.2.2.2.2.1))).trans (hHeld.2.2.2.2.2.2.2.2.2.2.1)
          have HS11_ := (hb.cell (World.block_lt_of_cell? _ _ (hHeld.2.2.2.2.2.2.2.2.2.2.2.1))).trans (hHeld.2.2.2.2.2.2.2.2.2.2.2.1)
          have HS12_ := (hb.cell (World.block_lt_of_cell? _ _ (hHeld.2.2.2.2.2.2.2.2.2.2.2.2.1))).trans (hHeld.2.2.2.2.2.2.2.2.2.2.2.2.1)
          have HS13_ := (hb.cell (World.block_lt_of_cell? _ _ (hHeld.2.2.2.2.2.2.2.2.2.2.2.2.2.1))).trans (hHeld.2.2.2.2.2.2.2.2.2.2.2.2.2.1)
          have HS14_ := (hb.cell (World.block_lt_of_cell? _ _ (hHeld.2.2.2.2.2.2.2.2.2.2.2.2.2.2))).trans (hHeld.2.2.2.2.2.2.2.2.2.2.2.2.2.2)
          refine ⟨_, rfl, ?_⟩
          have n0_ := Aside0.mk (Kd.R_below (by (with_reducible repeat (first | apply Kd.R_alloc | apply Kd.R_drewN | apply Kd.R_drew)); exact HO193.out) hb)
          have n1_ := Aside0.mk (Kd.R_below (by (with_reducible repeat (first | apply Kd.R_alloc | apply Kd.R_drewN | apply Kd.R_drew)); exact HO198.out) hb)
          have n2_ := Aside0.mk (below_step (by repeat (first | (with_reducible first | exact HB.out | apply below_alloc | apply pw_below_drewN | apply below_drew1) | exact HB.out)) hb)
          clear HO193
          clear HO198
          clear HB
          have HO193 := n0_
          have HO198 := n1_
          have HB := n2_
          clear n0_ n1_ n2_
          (try clear hb)
          (try clear hb2)
          (try clear hk)
          (try clear hi)
          refine hK.out _ _ ⟨HS0_, HS1_, HS2_, HS3_, HS4_, HS5_, HS6_, HS7_, HS8_, HS9_, HS10_, HS11_, HS12_, HS13_, HS14_⟩ (fun hHeld => ?_)
          clear hK K
          refine norm_ (a' := ?_) ?_ ?_
          rotate_left
          ·show Act.put _ (some 48) _ = _
           simp only [Act.put, List.setIfInBounds_toArray, List.set_cons_zero, List.set_cons_succ, i64_w, i32_w]
           rfl
          refine pure_ (i := 39) (N := some 49) (v := ?_) (a' := ?_) #[true, true, true, true, true, true, true, true, true, true, true, true, true, true, true, true, true, true, true, true, true, true, true, true, true, true, true, true, true, true, true, true, true, true, true, true, true, true, true, true, false, false] rfl rfl (any_of HT_.out (by kernel_rfl)) (fun _ _ _ h => h) (Or.inl ⟨by rfl, ?_⟩) ?_ ?_
          rotate_left
          ·intro w'
           go_simp
           with_reducible rfl
          rotate_left
          ·simp only [Act.put, List.setIfInBounds_toArray, List.set_cons_zero, List.set_cons_succ, i64_w, i32_w]
           rfl
          refine pure_ (i := 40) (N := some 50) (v := ?_) (a' := ?_) #[true, true, true, true, true, true, true, true, true, true, true, true, true, true, true, true, true, true, true, true, true, true, true, true, true, true, true, true, true, true, true, true, true, true, true, true, true, true, true, true, true, false] rfl rfl (any_of HT_.out (by kernel_rfl)) (fun _ _ _ h => h) (Or.inl ⟨by rfl, ?_⟩) ?_ ?_
          rotate_left
          ·intro w'
           go_simp
           with_reducible rfl
          rotate_left
          ·simp only [Act.put, List.setIfInBounds_toArray, List.set_cons_zero, List.set_cons_succ, i64_w, i32_w]
           rfl
          refine pure_ (i := 41) (N := some 0) (v := ?_) (a' := ?_) #[true, true, true, true, true, true, true, true, true, true, true, true, true, true, true, true, true, true, true, true, true, true, true, true, true, true, true, true, true, true, true, true, true, true, true, true, true, true, true, true, true, true] rfl rfl (any_of HT_.out (by kernel_rfl)) (fun _ _ _ h => h) (Or.inl ⟨by rfl, ?_⟩) ?_ ?_
          rotate_left
          ·intro w'
           go_simp
           with_reducible rfl
          rotate_left
          ·simp only [Act.put, List.setIfInBounds_toArray, List.set_cons_zero, List.set_cons_succ, i64_w, i32_w]
           rfl
          refine done_ (done_of HT_.out (by kernel_rfl)) ?_
          try go_wp2
          go_ret
          exact ⟨by first | rfl | (simp [errW_none, errW_some] <;> rfl) | (simp [*, errW_none, errW_some] <;> rfl), by repeat (first | (with_reducible first | exact HB.out | apply below_alloc | apply pw_below_drewN | apply below_drew1) | exact HB.out)⟩
         ·rw [if_neg c12] at H
          exact absurd (H.trans (congrArg some Hr.out)) (by simp)
        ·rw [if_neg c10] at H
         exact absurd (H.trans (congrArg some Hr.out)) (by simp)
       ·rw [if_neg c9] at H
        exact absurd (H.trans (congrArg some Hr.out)) (by simp)
      ·rw [if_neg c7] at H
       exact absurd (H.trans (congrArg some Hr.out)) (by simp)
     ·rw [if_neg c6] at H
      exact absurd (H.trans (congrArg some Hr.out)) (by simp)
    ·rw [if_neg c5] at H
     exact absurd (H.trans (congrArg some Hr.out)) (by simp)
   ·rw [if_neg c4] at H
    exact absurd (H.trans (congrArg some Hr.out)) (by simp)
  ·rw [if_neg c3] at H
   exact absurd (H.trans (congrArg some Hr.out)) (by simp)
 ·rw [if_neg c2] at H
  exact absurd (H.trans (congrArg some Hr.out)) (by simp)

end Go.Proofs.Ythjcmodhleoocaa.Q
/- FCorporaref10Dominates -/
namespace Go.Proofs.Ythjcmodhleoocaa.Q
open Go.RowKit Go.Proofs.YthjcmodhleoocaaW.PrintWords Go.Proofs.YthjcmodhleoocaaW.PrintLast Go.Proofs.YthjcmodhleoocaaW.PrintMore
attribute [local go_sem] max2_int min2_int max_two min_two max_three min_three max_four min_four   -- for this text's walks alone
set_option linter.unusedVariables false
set_option linter.unusedSimpArgs false

/-! ### corporaref10_Dominates: function 22 -/
def corporaref10_Dominates.f (a0_0 : Int) (a0_1 : Int) (a0_2 : Int) (a1_0 : Int) (a1_1 : Int) (a1_2 : Int) : Option (Bool) := if a0_0 < a1_0 then (some (decide (a0_1 > a1_1))) else (some false)
set_option maxHeartbeats 8000000 in
set_option maxRecDepth 100000 in
theorem corporaref10_Dominates.calls (a0_0 : Int) (a0_1 : Int) (a0_2 : Int) (a1_0 : Int) (a1_1 : Int) (a1_2 : Int) (r : Bool) (w : World) (h : corporaref10_Dominates.f a0_0 a0_1 a0_2 a1_0 a1_1 a1_2 = some r) :
  Calls Try.prog 22 #[.agg #[.int .i64 a0_0, .int .i64 a0_1, .int .i64 a0_2], .agg #[.int .i64 a1_0, .int .i64 a1_1, .int .i64 a1_2]] w fun e w' => e = .returned (.bool r) ∧ Below w.heap.size w w' := by
 have hu43 := Try.underlying43
 have HB := Aside0.mk (Below.refl w.heap.size w)
 have H : (if a0_0 < a1_0 then (some (decide (a0_1 > a1_1))) else (some false)) = some r := h
 clear h
 by_cases c3 : a0_0 < a1_0
 ·rw [if_pos c3] at H
  have c3b0 : decide (a0_0 < a1_0) = true := decide_eq_true c3
  clear c3
  obtain rfl := Option.some.inj H
  go_enter Try.func22, Try.ntmps22
  go_wp2_with (first | ((with_reducible refine gate_dst (N := 2) rfl ?_); refine box_event ?hg (N := 2) ?hd (cs := #[.int .i64 a0_0, .int .i64 a0_1, .int .i64 a0_2]) (t := 43) ?hr ?_; (case hd => rfl); (case hg => rfl); (case hr => first | (go_simp; done) | (go_simp; rfl)); intro gb219 hg w4 hbox hb; have n0_ := Aside0.mk (below_step (by repeat (first | (with_reducible first | exact HB.out | apply below_alloc | apply pw_below_drewN | apply below_drew1) | exact HB.out)) hb); have n1_ := Aside0.mk (hbox); have n2_ := Aside0.mk ((by rw [hg]; exact (below_size (by repeat (first | (with_reducible first | exact HB.out | apply below_alloc | apply pw_below_drewN | apply below_drew1) | exact HB.out))) : w.heap.size ≤ gb219)); have n3_ := Aside0.mk ((by rw [hg]; exact (below_size (by repeat (first | (with_reducible first | exact HB.out | apply below_alloc | apply pw_below_drewN | apply below_drew1) | exact HB.out))) : w.heap.size ≤ gb219)); clear HB; have HB := n0_; have BK219 := n1_; have GW219 := n2_; have GE219 := n3_; clear n0_ n1_ n2_ n3_; clear hb hbox hg) | ((with_reducible refine gate_dst (N := 3) rfl ?_); refine box_event ?hg (N := 3) ?hd (cs := #[.int .i64 a1_0, .int .i64 a1_1, .int .i64 a1_2]) (t := 43) ?hr ?_; (case hd => rfl); (case hg => rfl); (case hr => first | (go_simp; done) | (go_simp; rfl)); intro gb220 hg w5 hbox hb; have n0_ := Aside0.mk (blk_below (g := gb219) (o := .cells #[.int .i64 a0_0, .int .i64 a0_1, .int .i64 a0_2] 43 (0, 0)) (by (with_reducible repeat (first | refine blk_drewN ?_ _ | refine blk_drew ?_ | refine blk_alloc ?_ _)); exact BK219.out) hb); have n1_ := Aside0.mk (below_step (by repeat (first | (with_reducible first | exact HB.out | apply below_alloc | apply pw_below_drewN | apply below_drew1 | refine below_set ?_ GE219.out) | exact HB.out)) hb); have n2_ := Aside0.mk (hbox); have n3_ := Aside0.mk ((by rw [hg]; exact (below_size (by repeat (first | (with_reducible first | exact HB.out | apply below_alloc | apply pw_below_drewN | apply below_drew1 | refine below_set ?_ GE219.out) | exact HB.out))) : w.heap.size ≤ gb220)); have n4_ := Aside0.mk ((by rw [hg]; exact (below_size (by repeat (first | (with_reducible first | exact HB.out | apply below_alloc | apply pw_below_drewN | apply below_drew1 | refine below_set ?_ GE219.out) | exact HB.out))) : w.heap.size ≤ gb220)); have n5_ := Aside0.mk ((by rw [hg]; exact Nat.ne_of_lt (blk_lt (g := gb219) (o := .cells #[.int .i64 a0_0, .int .i64 a0_1, .int .i64 a0_2] 43 (0, 0)) (by (with_reducible repeat (first | refine blk_drewN ?_ _ | refine blk_drew ?_ | refine blk_alloc ?_ _)); exact BK219.out)) : gb219 ≠ gb220)); have n6_ := Aside0.mk ((by rw [hg]; exact Nat.ne_of_gt (blk_lt (g := gb219) (o := .cells #[.int .i64 a0_0, .int .i64 a0_1, .int .i64 a0_2] 43 (0, 0)) (by (with_reducible repeat (first | refine blk_drewN ?_ _ | refine blk_drew ?_ | refine blk_alloc ?_ _)); exact BK219.out)) : gb220 ≠ gb219)); clear BK219; clear HB; have BK219 := n0_; have HB := n1_; have BK220 := n2_; have GW220 := n3_; have GE220 := n4_; have NB219_220 := n5_; have NB220_219 := n6_; clear n0_ n1_ n2_ n3_ n4_ n5_ n6_; clear hb hbox hg; have hnb6 := NB219_220.out; have hnc6 := NB220_219.out; have hcz7_0 : w5.cell? ⟨gb219, 0, none⟩ = some (.int .i64 a0_0) := (blk_cell BK219.out 0).trans rfl; have hcz7_1 : w5.cell? ⟨gb219, 1, none⟩ = some (.int .i64 a0_1) := (blk_cell BK219.out 1).trans rfl; have hcz7_2 : w5.cell? ⟨gb219, 2, none⟩ = some (.int .i64 a0_2) := (blk_cell BK219.out 2).trans rfl; have hfz7_0 := blk_frozen BK219.out 0; have hfz7_1 := blk_frozen BK219.out 1; have hfz7_2 := blk_frozen BK219.out 2; have hcz8_0 : w5.cell? ⟨gb220, 0, none⟩ = some (.int .i64 a1_0) := (blk_cell BK220.out 0).trans rfl; have hcz8_1 : w5.cell? ⟨gb220, 1, none⟩ = some (.int .i64 a1_1) := (blk_cell BK220.out 1).trans rfl; have hcz8_2 : w5.cell? ⟨gb220, 2, none⟩ = some (.int .i64 a1_2) := (blk_cell BK220.out 2).trans rfl; have hfz8_0 := blk_frozen BK220.out 0; have hfz8_1 := blk_frozen BK220.out 1; have hfz8_2 := blk_frozen BK220.out 2))
  go_ret
  exact ⟨by first | rfl | (simp [errW_none, errW_some] <;> rfl) | (simp [*, errW_none, errW_some] <;> rfl), by repeat (first | (with_reducible first | exact HB.out | apply below_alloc | apply pw_below_drewN | apply below_drew1 | refine below_set ?_ GE219.out | refine below_set ?_ GE220.out) | exact HB.out)⟩
 ·rw [if_neg c3] at H
  have c3b0 : decide (a0_0 < a1_0) = false := decide_eq_false c3
  clear c3
  obtain rfl := Option.some.inj H
  go_enter Try.func22, Try.ntmps22
  go_wp2_with (first | ((with_reducible refine gate_dst (N := 2) rfl ?_); refine box_event ?hg (N := 2) ?hd (cs := #[.int .i64 a0_0, .int .i64 a0_1, .int .i64 a0_2]) (t := 43) ?hr ?_; (case hd => rfl); (case hg => rfl); (case hr => first | (go_simp; done) | (go_simp; rfl)); intro gb219 hg w9 hbox hb; have n0_ := Aside0.mk (below_step (by repeat (first | (with_reducible first | exact HB.out | apply below_alloc | apply pw_below_drewN | apply below_drew1) | exact HB.out)) hb); have n1_ := Aside0.mk (hbox); have n2_ := Aside0.mk ((by rw [hg]; exact (below_size (by repeat (first | (with_reducible first | exact HB.out | apply below_alloc | apply pw_below_drewN | apply below_drew1) | exact HB.out))) : w.heap.size ≤ gb219)); have n3_ := Aside0.mk ((by rw [hg]; exact (below_size (by repeat (first | (with_reducible first | exact HB.out | apply below_alloc | apply pw_below_drewN | apply below_drew1) | exact HB.out))) : w.heap.size ≤ gb219)); clear HB; have HB := n0_; have BK219 := n1_; have GW219 := n2_; have GE219 := n3_; clear n0_ n1_ n2_ n3_; clear hb hbox hg) | ((with_reducible refine gate_dst (N := 3) rfl ?_); refine box_event ?hg (N := 3) ?hd (cs := #[.int .i64 a1_0, .int .i64 a1_1, .int .i64 a1_2]) (t := 43) ?hr ?_; (case hd => rfl); (case hg => rfl); (case hr => first | (go_simp; done) | (go_simp; rfl)); intro gb220 hg w10 hbox hb; have n0_ := Aside0.mk (blk_below (g := gb219) (o := .cells #[.int .i64 a0_0, .int .i64 a0_1, .int .i64 a0_2] 43 (0, 0)) (by (with_reducible repeat (first | refine blk_drewN ?_ _ | refine blk_drew ?_ | refine blk_alloc ?_ _)); exact BK219.out) hb); have n1_ := Aside0.mk (below_step (by repeat (first | (with_reducible first | exact HB.out | apply below_alloc | apply pw_below_drewN | apply below_drew1 | refine below_set ?_ GE219.out) | exact HB.out)) hb); have n2_ := Aside0.mk (hbox); have n3_ := Aside0.mk ((by rw [hg]; exact (below_size (by repeat (first | (with_reducible first | exact HB.out | apply below_alloc | apply pw_below_drewN | apply below_drew1 | refine below_set ?_ GE219.out) | exact HB.out))) : w.heap.size ≤ gb220)); have n4_ := Aside0.mk ((by rw [hg]; exact (below_size (by repeat (first | (with_reducible first | exact HB.out | apply below_alloc | apply pw_below_drewN | apply below_drew1 | refine below_set ?_ GE219.out) | exact HB.out))) : w.heap.size ≤ gb220)); have n5_ := Aside0.mk ((by rw [hg]; exact Nat.ne_of_lt (blk_lt (g := gb219) (o := .cells #[.int .i64 a0_0, .int .i64 a0_1, .int .i64 a0_2] 43 (0, 0)) (by (with_reducible repeat (first | refine blk_drewN ?_ _ | refine blk_drew ?_ | refine blk_alloc ?_ _)); exact BK219.out)) : gb219 ≠ gb220)); have n6_ := Aside0.mk ((by rw [hg]; exact Nat.ne_of_gt (blk_lt (g := gb219) (o := .cells #[.int .i64 a0_0, .int .i64 a0_1, .int .i64 a0_2] 43 (0, 0)) (by (with_reducible repeat (first | refine blk_drewN ?_ _ | refine blk_drew ?_ | refine blk_alloc ?_ _)); exact BK219.out)) : gb220 ≠ gb219)); clear BK219; clear HB; have BK219 := n0_; have HB := n1_; have BK220 := n2_; have GW220 := n3_; have GE220 := n4_; have NB219_220 := n5_; have NB220_219 := n6_; clear n0_ n1_ n2_ n3_ n4_ n5_ n6_; clear hb hbox hg; have hnb11 := NB219_220.out; have hnc11 := NB220_219.out; have hcz12_0 : w10.cell? ⟨gb219, 0, none⟩ = some (.int .i64 a0_0) := (blk_cell BK219.out 0).trans rfl; have hcz12_1 : w10.cell? ⟨gb219, 1, none⟩ = some (.int .i64 a0_1) := (blk_cell BK219.out 1).trans rfl; have hcz12_2 : w10.cell? ⟨gb219, 2, none⟩ = some (.int .i64 a0_2) := (blk_cell BK219.out 2).trans rfl; have hfz12_0 := blk_frozen BK219.out 0; have hfz12_1 := blk_frozen BK219.out 1; have hfz12_2 := blk_frozen BK219.out 2; have hcz13_0 : w10.cell? ⟨gb220, 0, none⟩ = some (.int .i64 a1_0) := (blk_cell BK220.out 0).trans rfl; have hcz13_1 : w10.cell? ⟨gb220, 1, none⟩ = some (.int .i64 a1_1) := (blk_cell BK220.out 1).trans rfl; have hcz13_2 : w10.cell? ⟨gb220, 2, none⟩ = some (.int .i64 a1_2) := (blk_cell BK220.out 2).trans rfl; have hfz13_0 := blk_frozen BK220.out 0; have hfz13_1 := blk_frozen BK220.out 1; have hfz13_2 := blk_frozen BK220.out 2))
  go_ret
  exact ⟨by first | rfl | (simp [errW_none, errW_some] <;> rfl) | (simp [*, errW_none, errW_some] <;> rfl), by repeat (first | (with_reducible first | exact HB.out | apply below_alloc | apply pw_below_drewN | apply below_drew1 | refine below_set ?_ GE219.out | refine below_set ?_ GE220.out) | exact HB.out)⟩

end Go.Proofs.Ythjcmodhleoocaa.Q
/- FCorporaref10Precedes -/
namespace Go.Proofs.Ythjcmodhleoocaa.Q
open Go.RowKit Go.Proofs.YthjcmodhleoocaaW.PrintWords Go.Proofs.YthjcmodhleoocaaW.PrintLast Go.Proofs.YthjcmodhleoocaaW.PrintMore
attribute [local go_sem] max2_int min2_int max_two min_two max_three min_three max_four min_four   -- for this text's walks alone
set_option linter.unusedVariables false
set_option linter.unusedSimpArgs false

/-! ### corporaref10_Precedes: function 23 -/
def corporaref10_Precedes.f (a0_0 : Int) (a0_1 : Int) (a0_2 : Int) (a1_0 : Int) (a1_1 : Int) (a1_2 : Int) : Option (Bool) := if a0_0 < a1_0 then (some (decide (a0_1 < a1_1))) else (some false)
set_option maxHeartbeats 8000000 in
set_option maxRecDepth 100000 in
theorem corporaref10_Precedes.calls (a0_0 : Int) (a0_1 : Int) (a0_2 : Int) (a1_0 : Int) (a1_1 : Int) (a1_2 : Int) (r : Bool) (w : World) (h : corporaref10_Precedes.f a0_0 a0_1 a0_2 a1_0 a1_1 a1_2 = some r) :
  Calls Try.prog 23 #[.agg #[.int .i64 a0_0, .int .i64 a0_1, .int .i64 a0_2], .agg #[.int .i64 a1_0, .int .i64 a1_1, .int .i64 a1_2]] w fun e w' => e = .returned (.bool r) ∧ Below w.heap.size w w' := by
 have hu43 := Try.underlying43
 have HB := Aside0.mk (Below.refl w.heap.size w)
 have H : (if a0_0 < a1_0 then (some (decide (a0_1 < a1_1))) else (some false)) = some r := h
 clear h
 by_cases c3 : a0_0 < a1_0
 ·rw [if_pos c3] at H
  have c3b0 : decide (a0_0 < a1_0) = true := decide_eq_true c3
  clear c3
  obtain rfl := Option.some.inj H
  go_enter Try.func23, Try.ntmps23
  go_wp2_with (first | ((with_reducible refine gate_dst (N := 2) rfl ?_); refine box_event ?hg (N := 2) ?hd (cs := #[.int .i64 a0_0, .int .i64 a0_1, .int .i64 a0_2]) (t := 43) ?hr ?_; (case hd => rfl); (case hg => rfl); (case hr => first | (go_simp; done) | (go_simp; rfl)); intro gb305 hg w4 hbox hb; have n0_ := Aside0.mk (below_step (by repeat (first | (with_reducible first | exact HB.out | apply below_alloc | apply pw_below_drewN | apply below_drew1) | exact HB.out)) hb); have n1_ := Aside0.mk (hbox); have n2_ := Aside0.mk ((by rw [hg]; exact (below_size (by repeat (first | (with_reducible first | exact HB.out | apply below_alloc | apply pw_below_drewN | apply below_drew1) | exact HB.out))) : w.heap.size ≤ gb305)); have n3_ := Aside0.mk ((by rw [hg]; exact (below_size (by repeat (first | (with_reducible first | exact HB.out | apply below_alloc | apply pw_below_drewN | apply below_drew1) | exact HB.out))) : w.heap.size ≤ gb305)); clear HB; have HB := n0_; have BK305 := n1_; have GW305 := n2_; have GE305 := n3_; clear n0_ n1_ n2_ n3_; clear hb hbox hg) | ((with_reducible refine gate_dst (N := 3) rfl ?_); refine box_event ?hg (N := 3) ?hd (cs := #[.int .i64 a1_0, .int .i64 a1_1, .int .i64 a1_2]) (t := 43) ?hr ?_; (case hd => rfl); (case hg => rfl); (case hr => first | (go_simp; done) | (go_simp; rfl)); intro gb306 hg w5 hbox hb; have n0_ := Aside0.mk (blk_below (g := gb305) (o := .cells #[.int .i64 a0_0, .int .i64 a0_1, .int .i64 a0_2] 43 (0, 0)) (by (with_reducible repeat (first | refine blk_drewN ?_ _ | refine blk_drew ?_ | refine blk_alloc ?_ _)); exact BK305.out) hb); have n1_ := Aside0.mk (below_step (by repeat (first | (with_reducible first | exact HB.out | apply below_alloc | apply pw_below_drewN | apply below_drew1 | refine below_set ?_ GE305.out) | exact HB.out)) hb); have n2_ := Aside0.mk (hbox); have n3_ := Aside0.mk ((by rw [hg]; exact (below_size (by repeat (first | (with_reducible first | exact HB.out | apply below_alloc | apply pw_below_drewN | apply below_drew1 | refine below_set ?_ GE305.out) | exact HB.out))) : w.heap.size ≤ gb306)); have n4_ := Aside0.mk ((by rw [hg]; exact (below_size (by repeat (first | (with_reducible first | exact HB.out | apply below_alloc | apply pw_below_drewN | apply below_drew1 | refine below_set ?_ GE305.out) | exact HB.out))) : w.heap.size ≤ gb306)); have n5_ := Aside0.mk ((by rw [hg]; exact Nat.ne_of_lt (blk_lt (g := gb305) (o := .cells #[.int .i64 a0_0, .int .i64 a0_1, .int .i64 a0_2] 43 (0, 0)) (by (with_reducible repeat (first | refine blk_drewN ?_ _ | refine blk_drew ?_ | refine blk_alloc ?_ _)); exact BK305.out)) : gb305 ≠ gb306)); have n6_ := Aside0.mk ((by rw [hg]; exact Nat.ne_of_gt (blk_lt (g := gb305) (o := .cells #[.int .i64 a0_0, .int .i64 a0_1, .int .i64 a0_2] 43 (0, 0)) (by (with_reducible repeat (first | refine blk_drewN ?_ _ | refine blk_drew ?_ | refine blk_alloc ?_ _)); exact BK305.out)) : gb306 ≠ gb305)); clear BK305; clear HB; have BK305 := n0_; have HB := n1_; have BK306 := n2_; have GW306 := n3_; have GE306 := n4_; have NB305_306 := n5_; have NB306_305 := n6_; clear n0_ n1_ n2_ n3_ n4_ n5_ n6_; clear hb hbox hg; have hnb6 := NB305_306.out; have hnc6 := NB306_305.out; have hcz7_0 : w5.cell? ⟨gb305, 0, none⟩ = some (.int .i64 a0_0) := (blk_cell BK305.out 0).trans rfl; have hcz7_1 : w5.cell? ⟨gb305, 1, none⟩ = some (.int .i64 a0_1) := (blk_cell BK305.out 1).trans rfl; have hcz7_2 : w5.cell? ⟨gb305, 2, none⟩ = some (.int .i64 a0_2) := (blk_cell BK305.out 2).trans rfl; have hfz7_0 := blk_frozen BK305.out 0; have hfz7_1 := blk_frozen BK305.out 1; have hfz7_2 := blk_frozen BK305.out 2; have hcz8_0 : w5.cell? ⟨gb306, 0, none⟩ = some (.int .i64 a1_0) := (blk_cell BK306.out 0).trans rfl; have hcz8_1 : w5.cell? ⟨gb306, 1, none⟩ = some (.int .i64 a1_1) := (blk_cell BK306.out 1).trans rfl; have hcz8_2 : w5.cell? ⟨gb306, 2, none⟩ = some (.int .i64 a1_2) := (blk_cell BK306.out 2).trans rfl; have hfz8_0 := blk_frozen BK306.out 0; have hfz8_1 := blk_frozen BK306.out 1; have hfz8_2 := blk_frozen BK306.out 2))
  go_ret
  exact ⟨by first | rfl | (simp [errW_none, errW_some] <;> rfl) | (simp [*, errW_none, errW_some] <;> rfl), by repeat (first | (with_reducible first | exact HB.out | apply below_alloc | apply pw_below_drewN | apply below_drew1 | refine below_set ?_ GE305.out | refine below_set ?_ GE306.out) | exact HB.out)⟩
 ·rw [if_neg c3] at H
  have c3b0 : decide (a0_0 < a1_0) = false := decide_eq_false c3
  clear c3
  obtain rfl := Option.some.inj H
  go_enter Try.func23, Try.ntmps23
  go_wp2_with (first | ((with_reducible refine gate_dst (N := 2) rfl ?_); refine box_event ?hg (N := 2) ?hd (cs := #[.int .i64 a0_0, .int .i64 a0_1, .int .i64 a0_2]) (t := 43) ?hr ?_; (case hd => rfl); (case hg => rfl); (case hr => first | (go_simp; done) | (go_simp; rfl)); intro gb305 hg w9 hbox hb; have n0_ := Aside0.mk (below_step (by repeat (first | (with_reducible first | exact HB.out | apply below_alloc | apply pw_below_drewN | apply below_drew1) | exact HB.out)) hb); have n1_ := Aside0.mk (hbox); have n2_ := Aside0.mk ((by rw [hg]; exact (below_size (by repeat (first | (with_reducible first | exact HB.out | apply below_alloc | apply pw_below_drewN | apply below_drew1) | exact HB.out))) : w.heap.size ≤ gb305)); have n3_ := Aside0.mk ((by rw [hg]; exact (below_size (by repeat (first | (with_reducible first | exact HB.out | apply below_alloc | apply pw_below_drewN | apply below_drew1) | exact HB.out))) : w.heap.size ≤ gb305)); clear HB; have HB := n0_; have BK305 := n1_; have GW305 := n2_; have GE305 := n3_; clear n0_ n1_ n2_ n3_; clear hb hbox hg) | ((with_reducible refine gate_dst (N := 3) rfl ?_); refine box_event ?hg (N := 3) ?hd (cs := #[.int .i64 a1_0, .int .i64 a1_1, .int .i64 a1_2]) (t := 43) ?hr ?_; (case hd => rfl); (case hg => rfl); (case hr => first | (go_simp; done) | (go_simp; rfl)); intro gb306 hg w10 hbox hb; have n0_ := Aside0.mk (blk_below (g := gb305) (o := .cells #[.int .i64 a0_0, .int .i64 a0_1, .int .i64 a0_2] 43 (0, 0)) (by (with_reducible repeat (first | refine blk_drewN ?_ _ | refine blk_drew ?_ | refine blk_alloc ?_ _)); exact BK305.out) hb); have n1_ := Aside0.mk (below_step (by repeat (first | (with_reducible first | exact HB.out | apply below_alloc | apply pw_below_drewN | apply below_drew1 | refine below_set ?_ GE305.out) | exact HB.out)) hb); have n2_ := Aside0.mk (hbox); have n3_ := Aside0.mk ((by rw [hg]; exact (below_size (by repeat (first | (with_reducible first | exact HB.out | apply below_alloc | apply pw_below_drewN | apply below_drew1 | refine below_set ?_ GE305.out) | exact HB.out))) : w.heap.size ≤ gb306)); have n4_ := Aside0.mk ((by rw [hg]; exact (below_size (by repeat (first | (with_reducible first | exact HB.out | apply below_alloc | apply pw_below_drewN | apply below_drew1 | refine below_set ?_ GE305.out) | exact HB.out))) : w.heap.size ≤ gb306)); have n5_ := Aside0.mk ((by rw [hg]; exact Nat.ne_of_lt (blk_lt (g := gb305) (o := .cells #[.int .i64 a0_0, .int .i64 a0_1, .int .i64 a0_2] 43 (0, 0)) (by (with_reducible repeat (first | refine blk_drewN ?_ _ | refine blk_drew ?_ | refine blk_alloc ?_ _)); exact BK305.out)) : gb305 ≠ gb306)); have n6_ := Aside0.mk ((by rw [hg]; exact Nat.ne_of_gt (blk_lt (g := gb305) (o := .cells #[.int .i64 a0_0, .int .i64 a0_1, .int .i64 a0_2] 43 (0, 0)) (by (with_reducible repeat (first | refine blk_drewN ?_ _ | refine blk_drew ?_ | refine blk_alloc ?_ _)); exact BK305.out)) : gb306 ≠ gb305)); clear BK305; clear HB; have BK305 := n0_; have HB := n1_; have BK306 := n2_; have GW306 := n3_; have GE306 := n4_; have NB305_306 := n5_; have NB306_305 := n6_; clear n0_ n1_ n2_ n3_ n4_ n5_ n6_; clear hb hbox hg; have hnb11 := NB305_306.out; have hnc11 := NB306_305.out; have hcz12_0 : w10.cell? ⟨gb305, 0, none⟩ = some (.int .i64 a0_0) := (blk_cell BK305.out 0).trans rfl; have hcz12_1 : w10.cell? ⟨gb305, 1, none⟩ = some (.int .i64 a0_1) := (blk_cell BK305.out 1).trans rfl; have hcz12_2 : w10.cell? ⟨gb305, 2, none⟩ = some (.int .i64 a0_2) := (blk_cell BK305.out 2).trans rfl; have hfz12_0 := blk_frozen BK305.out 0; have hfz12_1 := blk_frozen BK305.out 1; have hfz12_2 := blk_frozen BK305.out 2; have hcz13_0 : w10.cell? ⟨gb306, 0, none⟩ = some (.int .i64 a1_0) := (blk_cell BK306.out 0).trans rfl; have hcz13_1 : w10.cell? ⟨gb306, 1, none⟩ = some (.int .i64 a1_1) := (blk_cell BK306.out 1).trans rfl; have hcz13_2 : w10.cell? ⟨gb306, 2, none⟩ = some (.int .i64 a1_2) := (blk_cell BK306.out 2).trans rfl; have hfz13_0 := blk_frozen BK306.out 0; have hfz13_1 := blk_frozen BK306.out 1; have hfz13_2 := blk_frozen BK306.out 2))
  go_ret
  exact ⟨by first | rfl | (simp [errW_none, errW_some] <;> rfl) | (simp [*, errW_none, errW_some] <;> rfl), by repeat (first | (with_reducible first | exact HB.out | apply below_alloc | apply pw_below_drewN | apply below_drew1 | refine below_set ?_ GE305.out | refine below_set ?_ GE306.out) | exact HB.out)⟩

end Go.Proofs.Ythjcmodhleoocaa.Q
/- FCorporalaw10TreelabelCompares -/
namespace Go.Proofs.Ythjcmodhleoocaa.Q
open Go.RowKit Go.Proofs.YthjcmodhleoocaaW.PrintWords Go.Proofs.YthjcmodhleoocaaW.PrintLast Go.Proofs.YthjcmodhleoocaaW.PrintMore
attribute [local go_sem] max2_int min2_int max_two min_two max_three min_three max_four min_four   -- for this text's walks alone
set_option linter.unusedVariables false
set_option linter.unusedSimpArgs false

/-! ### corporalaw10_TreelabelCompares: function 7 -/
def corporalaw10_TreelabelCompares.f (k : Nat) (a0_0 : Int) (a0_1 : Int) (a0_2 : Int) (a1_0 : Int) (a1_1 : Int) (a1_2 : Int) : Option (Bool) := (treelabel_Dominates.f a0_0 a0_1 a0_2 a1_0 a1_1 a1_2).bind fun t311 => ((corporaref10_Dominates.f a0_0 a0_1 a0_2 a1_0 a1_1 a1_2).bind fun t312 => (if (t311 == t312) = true then ((treelabel_Precedes.f a0_0 a0_1 a0_2 a1_0 a1_1 a1_2).bind fun t313 => ((corporaref10_Precedes.f a0_0 a0_1 a0_2 a1_0 a1_1 a1_2).bind fun t314 => (if (t313 == t314) = true then ((corporalaw10_awake.f k).bind fun t315 => (some t315)) else (some false)))) else (some false)))
theorem corporalaw10_TreelabelCompares.mono : ∀ a0 a1 a2 a3 a4 a5 k, LeO (corporalaw10_TreelabelCompares.f k a0 a1 a2 a3 a4 a5) (corporalaw10_TreelabelCompares.f (k + 1) a0 a1 a2 a3 a4 a5) := by
 intro a0 a1 a2 a3 a4 a5 k
 unfold corporalaw10_TreelabelCompares.f
 repeat' first
   | (with_reducible exact corporalaw10_awake.mono _)
   | (with_reducible exact LeO.refl _)
   | (with_reducible exact LeO.none _)
   | (with_reducible refine LeO.ite ?_ ?_)
   | (with_reducible refine LeO.bind ?_ (fun _ => ?_))
   | exact corporalaw10_awake.mono _
   | exact LeO.none _
   | refine LeO.ite ?_ ?_
   | refine LeO.bind ?_ (fun _ => ?_)
def corporalaw10_TreelabelCompares.T2 : Bool × List (List Nat × List Nat) := (true, [([], []), ([], []), ([0, 1], [0, 1]), ([], []), ([], []), ([3, 4, 2], [3, 4]), ([2, 5], [2, 5]), ([6, 5], [6]), ([7], [7]), ([7], [7]), ([8, 9, 7, 7], [7, 8, 9]), ([7], [7]), ([7], [7]), ([11, 12, 10, 7], [7, 11, 12]), ([10, 13, 7], [7, 10, 13]), ([7, 14], [7, 14]), ([15, 13], [15]), ([16, 16], [16]), ([16, 17], [16, 17]), ([18, 17, 0, 1, 2, 3, 4, 5, 6, 7, 8, 9, 10, 11, 12, 13, 14, 15, 16, 17, 18], [18])])
def corporalaw10_TreelabelCompares.B2 : List Nat := [0, 0, 3, 0, 0, 31, 63, 127, 255, 255, 1023, 255, 255, 8191, 16383, 32767, 65535, 131071, 262143, 524287]
theorem corporalaw10_TreelabelCompares.tab2 : rtab .any (opsOf Try.f7 2) = corporalaw10_TreelabelCompares.T2 := by kernel_rfl
theorem corporalaw10_TreelabelCompares.bits2 : waitsOk corporalaw10_TreelabelCompares.T2.2 corporalaw10_TreelabelCompares.B2 = true := by kernel_rfl
set_option maxHeartbeats 8000000 in
set_option maxRecDepth 100000 in
theorem corporalaw10_TreelabelCompares.calls (k : Nat) (a0_0 : Int) (a0_1 : Int) (a0_2 : Int) (a1_0 : Int) (a1_1 : Int) (a1_2 : Int) (r : Bool) (w : World) (h : corporalaw10_TreelabelCompares.f k a0_0 a0_1 a0_2 a1_0 a1_1 a1_2 = some r) :
  Calls Try.prog 7 #[.agg #[.int .i64 a0_0, .int .i64 a0_1, .int .i64 a0_2], .agg #[.int .i64 a1_0, .int .i64 a1_1, .int .i64 a1_2]] w fun e w' => e = .returned (.bool r) ∧ Below w.heap.size w w' := by
 have hu41 := Try.underlying41
 have hu43 := Try.underlying43
 have HB := Aside0.mk (Below.refl w.heap.size w)
 have H : ((treelabel_Dominates.f a0_0 a0_1 a0_2 a1_0 a1_1 a1_2).bind fun t311 => ((corporaref10_Dominates.f a0_0 a0_1 a0_2 a1_0 a1_1 a1_2).bind fun t312 => (if (t311 == t312) = true then ((treelabel_Precedes.f a0_0 a0_1 a0_2 a1_0 a1_1 a1_2).bind fun t313 => ((corporaref10_Precedes.f a0_0 a0_1 a0_2 a1_0 a1_1 a1_2).bind fun t314 => (if (t313 == t314) = true then ((corporalaw10_awake.f k).bind fun t315 => (some t315)) else (some false)))) else (some false)))) = some r := h
 clear h
 replace H := Option.bind_eq_some_iff.mp H
 obtain ⟨t311, A30, H⟩ := H
 replace H : ((corporaref10_Dominates.f a0_0 a0_1 a0_2 a1_0 a1_1 a1_2).bind fun t312 => (if (t311 == t312) = true then ((treelabel_Precedes.f a0_0 a0_1 a0_2 a1_0 a1_1 a1_2).bind fun t313 => ((corporaref10_Precedes.f a0_0 a0_1 a0_2 a1_0 a1_1 a1_2).bind fun t314 => (if (t313 == t314) = true then ((corporalaw10_awake.f k).bind fun t315 => (some t315)) else (some false)))) else (some false))) = some r := H
 have A3 := Aside0.mk A30
 clear A30
 replace H := Option.bind_eq_some_iff.mp H
 obtain ⟨t312, A40, H⟩ := H
 replace H : (if (t311 == t312) = true then ((treelabel_Precedes.f a0_0 a0_1 a0_2 a1_0 a1_1 a1_2).bind fun t313 => ((corporaref10_Precedes.f a0_0 a0_1 a0_2 a1_0 a1_1 a1_2).bind fun t314 => (if (t313 == t314) = true then ((corporalaw10_awake.f k).bind fun t315 => (some t315)) else (some false)))) else (some false)) = some r := H
 have A4 := Aside0.mk A40
 clear A40
 by_cases c5 : (t311 == t312) = true
 ·rw [if_pos c5] at H
  have c5b0 : (t311 == t312) = true := c5
  (try (have c5b1 : decide (t311 = t312) = true := by simpa using c5))
  (try (have c5b2 : (t311 == t312) = true := by simpa using c5))
  clear c5
  replace H := Option.bind_eq_some_iff.mp H
  obtain ⟨t313, A60, H⟩ := H
  replace H : ((corporaref10_Precedes.f a0_0 a0_1 a0_2 a1_0 a1_1 a1_2).bind fun t314 => (if (t313 == t314) = true then ((corporalaw10_awake.f k).bind fun t315 => (some t315)) else (some false))) = some r := H
  have A6 := Aside0.mk A60
  clear A60
  replace H := Option.bind_eq_some_iff.mp H
  obtain ⟨t314, A70, H⟩ := H
  replace H : (if (t313 == t314) = true then ((corporalaw10_awake.f k).bind fun t315 => (some t315)) else (some false)) = some r := H
  have A7 := Aside0.mk A70
  clear A70
  by_cases c8 : (t313 == t314) = true
  ·rw [if_pos c8] at H
   have c8b0 : (t313 == t314) = true := c8
   (try (have c8b1 : decide (t313 = t314) = true := by simpa using c8))
   (try (have c8b2 : (t313 == t314) = true := by simpa using c8))
   clear c8
   replace H := Option.bind_eq_some_iff.mp H
   obtain ⟨t315, A90, H⟩ := H
   replace H : (some t315) = some r := H
   have A9 := Aside0.mk A90
   clear A90
   obtain rfl := Option.some.inj H
   go_enter Try.func7, Try.ntmps7
   try go_wp2_with (first | ((with_reducible refine gate_dst (N := 2) rfl ?_); refine box_event ?hg (N := 2) ?hd (cs := #[.int .i64 a0_0, .int .i64 a0_1, .int .i64 a0_2]) (t := 41) ?hr ?_; (case hd => rfl); (case hg => rfl); (case hr => first | (go_simp; done) | (go_simp; rfl)); intro gb307 hg w10 hbox hb; have n0_ := Aside0.mk (below_step (by repeat (first | (with_reducible first | exact HB.out | apply below_alloc | apply pw_below_drewN | apply below_drew1) | exact HB.out)) hb); have n1_ := Aside0.mk (hbox); have n2_ := Aside0.mk ((by rw [hg]; exact (below_size (by repeat (first | (with_reducible first | exact HB.out | apply below_alloc | apply pw_below_drewN | apply below_drew1) | exact HB.out))) : w.heap.size ≤ gb307)); have n3_ := Aside0.mk ((by rw [hg]; exact (below_size (by repeat (first | (with_reducible first | exact HB.out | apply below_alloc | apply pw_below_drewN | apply below_drew1) | exact HB.out))) : w.heap.size ≤ gb307)); clear HB; have HB := n0_; have BK307 := n1_; have GW307 := n2_; have GE307 := n3_; clear n0_ n1_ n2_ n3_; clear hb hbox hg) | ((with_reducible refine gate_dst (N := 3) rfl ?_); refine box_event ?hg (N := 3) ?hd (cs := #[.int .i64 a1_0, .int .i64 a1_1, .int .i64 a1_2]) (t := 41) ?hr ?_; (case hd => rfl); (case hg => rfl); (case hr => first | (go_simp; done) | (go_simp; rfl)); intro gb308 hg w11 hbox hb; have n0_ := Aside0.mk (blk_below (g := gb307) (o := .cells #[.int .i64 a0_0, .int .i64 a0_1, .int .i64 a0_2] 41 (0, 0)) (by (with_reducible repeat (first | refine blk_drewN ?_ _ | refine blk_drew ?_ | refine blk_alloc ?_ _)); exact BK307.out) hb); have n1_ := Aside0.mk (below_step (by repeat (first | (with_reducible first | exact HB.out | apply below_alloc | apply pw_below_drewN | apply below_drew1 | refine below_set ?_ GE307.out) | exact HB.out)) hb); have n2_ := Aside0.mk (hbox); have n3_ := Aside0.mk ((by rw [hg]; exact (below_size (by repeat (first | (with_reducible first | exact HB.out | apply below_alloc | apply pw_below_drewN | apply below_drew1 | refine below_set ?_ GE307.out) | exact HB.out))) : w.heap.size ≤ gb308)); have n4_ := Aside0.mk ((by rw [hg]; exact (below_size (by repeat (first | (with_reducible first | exact HB.out | apply below_alloc | apply pw_below_drewN | apply below_drew1 | refine below_set ?_ GE307.out) | exact HB.out))) : w.heap.size ≤ gb308)); have n5_ := Aside0.mk ((by rw [hg]; exact Nat.ne_of_lt (blk_lt (g := gb307) (o := .cells #[.int .i64 a0_0, .int .i64 a0_1, .int .i64 a0_2] 41 (0, 0)) (by (with_reducible repeat (first | refine blk_drewN ?_ _ | refine blk_drew ?_ | refine blk_alloc ?_ _)); exact BK307.out)) : gb307 ≠ gb308)); have n6_ := Aside0.mk ((by rw [hg]; exact Nat.ne_of_gt (blk_lt (g := gb307) (o := .cells #[.int .i64 a0_0, .int .i64 a0_1, .int .i64 a0_2] 41 (0, 0)) (by (with_reducible repeat (first | refine blk_drewN ?_ _ | refine blk_drew ?_ | refine blk_alloc ?_ _)); exact BK307.out)) : gb308 ≠ gb307)); clear BK307; clear HB; have BK307 := n0_; have HB := n1_; have BK308 := n2_; have GW308 := n3_; have GE308 := n4_; have NB307_308 := n5_; have NB308_307 := n6_; clear n0_ n1_ n2_ n3_ n4_ n5_ n6_; clear hb hbox hg))
   have n0_ := Aside0.mk (blk_drew BK307.out)
   have n1_ := Aside0.mk (blk_drew BK308.out)
   have n2_ := Aside0.mk (below_drew1 HB.out)
   clear BK307
   clear BK308
   clear HB
   have BK307 := n0_
   have BK308 := n1_
   have HB := n2_
   clear n0_ n1_ n2_
   refine start_ (n := 6) (S := fun w' => w'.cell? ⟨gb307, 0, none⟩ = some (.int .i64 a0_0) ∧ w'.cell? ⟨gb307, 1, none⟩ = some (.int .i64 a0_1) ∧ w'.cell? ⟨gb307, 2, none⟩ = some (.int .i64 a0_2) ∧ w'.cell? ⟨gb308, 0, none⟩ = some (.int .i64 a1_0) ∧ w'.cell? ⟨gb308, 1, none⟩ = some (.int .i64 a1_1) ∧ w'.cell? ⟨gb308, 2, none⟩ = some (.int .i64 a1_2)) (ds := []) #[false, false, false, false, false, false] (by kernel_rfl) rfl rfl ⟨(blk_cell BK307.out 0).trans rfl, (blk_cell BK307.out 1).trans rfl, (blk_cell BK307.out 2).trans rfl, (blk_cell BK308.out 0).trans rfl, (blk_cell BK308.out 1).trans rfl, (blk_cell BK308.out 2).trans rfl⟩ (fun hHeld => ?_)
   generalize w11.drew = w12 at BK307 BK308 HB hHeld ⊢
   refine take_ (i := 0) (N := some 7) (v := ?_) (a' := ?_) #[true, false, false, false, false, false] rfl rfl (by kernel_rfl) (fun _ _ _ h => h) (Or.inl ⟨by rfl, ?_⟩) hHeld ?_ ?_
   rotate_left
   ·rintro w' ⟨s0, s1, s2, s3, s4, s5⟩
    go_simp
    with_reducible rfl
   rotate_left
   ·simp only [Act.put, List.setIfInBounds_toArray, List.set_cons_zero, List.set_cons_succ, i64_w, i32_w]
    rfl
   refine take_ (i := 1) (N := some 8) (v := ?_) (a' := ?_) #[true, true, false, false, false, false] rfl rfl (by kernel_rfl) (fun _ _ _ h => h) (Or.inl ⟨by rfl, ?_⟩) hHeld ?_ ?_
   rotate_left
   ·rintro w' ⟨s0, s1, s2, s3, s4, s5⟩
    go_simp
    with_reducible rfl
   rotate_left
   ·simp only [Act.put, List.setIfInBounds_toArray, List.set_cons_zero, List.set_cons_succ, i64_w, i32_w]
    rfl
   refine join_ (σ := Nat × Nat) 2 #[true, true, true, true, false, false] (fun s_ => [(5, .pointer (some ⟨s_.1, 0, none⟩)), (6, .pointer (some ⟨s_.2, 0, none⟩))]) (fun s_ w' => (w'.cell? ⟨gb307, 0, none⟩ = some (.int .i64 a0_0) ∧ w'.cell? ⟨gb307, 1, none⟩ = some (.int .i64 a0_1) ∧ w'.cell? ⟨gb307, 2, none⟩ = some (.int .i64 a0_2) ∧ w'.cell? ⟨gb308, 0, none⟩ = some (.int .i64 a1_0) ∧ w'.cell? ⟨gb308, 1, none⟩ = some (.int .i64 a1_1) ∧ w'.cell? ⟨gb308, 2, none⟩ = some (.int .i64 a1_2)) ∧ (w'.heap[gb307]? = some (.cells #[.int .i64 a0_0, .int .i64 a0_1, .int .i64 a0_2] 41 (0, 0))) ∧ (w'.heap[gb308]? = some (.cells #[.int .i64 a1_0, .int .i64 a1_1, .int .i64 a1_2] 41 (0, 0))) ∧ (w'.heap[s_.1]? = some (.cells #[.int .i64 0, .int .i64 0, .int .i64 0] 43 (0, 0))) ∧ (w'.heap[s_.2]? = some (.cells #[.int .i64 0, .int .i64 0, .int .i64 0] 43 (0, 0))) ∧ (w.heap.size ≤ s_.1) ∧ (w.heap.size ≤ s_.1) ∧ (gb307 ≠ s_.1) ∧ (s_.1 ≠ gb307) ∧ (gb308 ≠ s_.1) ∧ (s_.1 ≠ gb308) ∧ (s_.2 ≠ s_.1) ∧ (s_.1 ≠ s_.2) ∧ (w.heap.size ≤ s_.2) ∧ (w.heap.size ≤ s_.2) ∧ (gb307 ≠ s_.2) ∧ (s_.2 ≠ gb307) ∧ (gb308 ≠ s_.2) ∧ (s_.2 ≠ gb308) ∧ (Below w.heap.size w w')) ?_ ?_
   rotate_left
   ·intro hCont
    refine two_ (i := 2) (j := 3) (Ni := some 5) (Nj := some 6) #[true, true, true, false, false, false] #[true, true, false, true, false, false] rfl rfl rfl rfl (by kernel_rfl) (by decide) (by decide) (fun K hK => ?_) (fun K hK => ?_)
    ·skip
     refine box_step ?hg (N := 5) ?hd (cs := #[.int .i64 0, .int .i64 0, .int .i64 0]) (t := 43) ?hr ?_; (case hd => rfl); (case hg => rfl); (case hr => first | (go_simp; done) | (go_simp; rfl))
     intro gb309 hg w13 hbox hb
     have n0_ := Aside0.mk (blk_below (g := gb307) (o := .cells #[.int .i64 a0_0, .int .i64 a0_1, .int .i64 a0_2] 41 (0, 0)) (by (with_reducible repeat (first | refine blk_drewN ?_ _ | refine blk_drew ?_ | refine blk_alloc ?_ _)); exact BK307.out) hb)
     have n1_ := Aside0.mk (blk_below (g := gb308) (o := .cells #[.int .i64 a1_0, .int .i64 a1_1, .int .i64 a1_2] 41 (0, 0)) (by (with_reducible repeat (first | refine blk_drewN ?_ _ | refine blk_drew ?_ | refine blk_alloc ?_ _)); exact BK308.out) hb)
     have n2_ := Aside0.mk (below_step (by repeat (first | (with_reducible first | exact HB.out | apply below_alloc | apply pw_below_drewN | apply below_drew1 | refine below_set ?_ GE307.out | refine below_set ?_ GE308.out) | exact HB.out)) hb)
     have n3_ := Aside0.mk (hbox)
     have n4_ := Aside0.mk ((by rw [hg]; exact (below_size (by repeat (first | (with_reducible first | exact HB.out | apply below_alloc | apply pw_below_drewN | apply below_drew1 | refine below_set ?_ GE307.out | refine below_set ?_ GE308.out) | exact HB.out))) : w.heap.size ≤ gb309))
     have n5_ := Aside0.mk ((by rw [hg]; exact (below_size (by repeat (first | (with_reducible first | exact HB.out | apply below_alloc | apply pw_below_drewN | apply below_drew1 | refine below_set ?_ GE307.out | refine below_set ?_ GE308.out) | exact HB.out))) : w.heap.size ≤ gb309))
     have n6_ := Aside0.mk ((by rw [hg]; exact Nat.ne_of_lt (blk_lt (g := gb307) (o := .cells #[.int .i64 a0_0, .int .i64 a0_1, .int .i64 a0_2] 41 (0, 0)) (by (with_reducible repeat (first | refine blk_drewN ?_ _ | refine blk_drew ?_ | refine blk_alloc ?_ _)); exact BK307.out)) : gb307 ≠ gb309))
     have n7_ := Aside0.mk ((by rw [hg]; exact Nat.ne_of_gt (blk_lt (g := gb307) (o := .cells #[.int .i64 a0_0, .int .i64 a0_1, .int .i64 a0_2] 41 (0, 0)) (by (with_reducible repeat (first | refine blk_drewN ?_ _ | refine blk_drew ?_ | refine blk_alloc ?_ _)); exact BK307.out)) : gb309 ≠ gb307))
     have n8_ := Aside0.mk ((by rw [hg]; exact Nat.ne_of_lt (blk_lt (g := gb308) (o := .cells #[.int .i64 a1_0, .int .i64 a1_1, .int .i64 a1_2] 41 (0, 0)) (by (with_reducible repeat (first | refine blk_drewN ?_ _ | refine blk_drew ?_ | refine blk_alloc ?_ _)); exact BK308.out)) : gb308 ≠ gb309))
     have n9_ := Aside0.mk ((by rw [hg]; exact Nat.ne_of_gt (blk_lt (g := gb308) (o := .cells #[.int .i64 a1_0, .int .i64 a1_1, .int .i64 a1_2] 41 (0, 0)) (by (with_reducible repeat (first | refine blk_drewN ?_ _ | refine blk_drew ?_ | refine blk_alloc ?_ _)); exact BK308.out)) : gb309 ≠ gb308))
     clear BK307
     clear BK308
     clear HB
     have BK307 := n0_
     have BK308 := n1_
     have HB := n2_
     have BK309 := n3_
     have GW309 := n4_
     have GE309 := n5_
     have NB307_309 := n6_
     have NB309_307 := n7_
     have NB308_309 := n8_
     have NB309_308 := n9_
     clear n0_ n1_ n2_ n3_ n4_ n5_ n6_ n7_ n8_ n9_
     clear hb hbox hg
     refine hK.out _ _ ⟨(blk_cell BK307.out 0).trans rfl, (blk_cell BK307.out 1).trans rfl, (blk_cell BK307.out 2).trans rfl, (blk_cell BK308.out 0).trans rfl, (blk_cell BK308.out 1).trans rfl, (blk_cell BK308.out 2).trans rfl⟩ (fun hHeld => ?_)
     clear hK K
     refine norm_ (a' := ?_) ?_ ?_
     rotate_left
     ·show Act.put _ (some 5) _ = _
      simp only [Act.put, List.setIfInBounds_toArray, List.set_cons_zero, List.set_cons_succ, i64_w, i32_w]
      rfl
     refine one_ (i := 3) (N := some 6) #[true, true, true, true, false, false] rfl rfl (by kernel_rfl) (by decide) (fun K hK => ?_)
     refine box_step ?hg (N := 6) ?hd (cs := #[.int .i64 0, .int .i64 0, .int .i64 0]) (t := 43) ?hr ?_; (case hd => rfl); (case hg => rfl); (case hr => first | (go_simp; done) | (go_simp; rfl))
     intro gb310 hg w14 hbox hb
     have n0_ := Aside0.mk (blk_below (g := gb307) (o := .cells #[.int .i64 a0_0, .int .i64 a0_1, .int .i64 a0_2] 41 (0, 0)) (by (with_reducible repeat (first | refine blk_drewN ?_ _ | refine blk_drew ?_ | refine blk_alloc ?_ _)); exact BK307.out) hb)
     have n1_ := Aside0.mk (blk_below (g := gb308) (o := .cells #[.int .i64 a1_0, .int .i64 a1_1, .int .i64 a1_2] 41 (0, 0)) (by (with_reducible repeat (first | refine blk_drewN ?_ _ | refine blk_drew ?_ | refine blk_alloc ?_ _)); exact BK308.out) hb)
     have n2_ := Aside0.mk (blk_below (g := gb309) (o := .cells #[.int .i64 0, .int .i64 0, .int .i64 0] 43 (0, 0)) (by (with_reducible repeat (first | refine blk_drewN ?_ _ | refine blk_drew ?_ | refine blk_alloc ?_ _)); exact BK309.out) hb)
     have n3_ := Aside0.mk (below_step (by repeat (first | (with_reducible first | exact HB.out | apply below_alloc | apply pw_below_drewN | apply below_drew1 | refine below_set ?_ GE307.out | refine below_set ?_ GE308.out | refine below_set ?_ GE309.out) | exact HB.out)) hb)
     have n4_ := Aside0.mk (hbox)
     have n5_ := Aside0.mk ((by rw [hg]; exact (below_size (by repeat (first | (with_reducible first | exact HB.out | apply below_alloc | apply pw_below_drewN | apply below_drew1 | refine below_set ?_ GE307.out | refine below_set ?_ GE308.out | refine below_set ?_ GE309.out) | exact HB.out))) : w.heap.size ≤ gb310))
     have n6_ := Aside0.mk ((by rw [hg]; exact (below_size (by repeat (first | (with_reducible first | exact HB.out | apply below_alloc | apply pw_below_drewN | apply below_drew1 | refine below_set ?_ GE307.out | refine below_set ?_ GE308.out | refine below_set ?_ GE309.out) | exact HB.out))) : w.heap.size ≤ gb310))
     have n7_ := Aside0.mk ((by rw [hg]; exact Nat.ne_of_lt (blk_lt (g := gb307) (o := .cells #[.int .i64 a0_0, .int .i64 a0_1, .int .i64 a0_2] 41 (0, 0)) (by (with_reducible repeat (first | refine blk_drewN ?_ _ | refine blk_drew ?_ | refine blk_alloc ?_ _)); exact BK307.out)) : gb307 ≠ gb310))
     have n8_ := Aside0.mk ((by rw [hg]; exact Nat.ne_of_gt (blk_lt (g := gb307) (o := .cells #[.int .i64 a0_0, .int .i64 a0_1, .int .i64 a0_2] 41 (0, 0)) (by (with_reducible repeat (first | refine blk_drewN ?_ _ | refine blk_drew ?_ | refine blk_alloc ?_ _)); exact BK307.out)) : gb310 ≠ gb307))
     have n9_ := Aside0.mk ((by rw [hg]; exact Nat.ne_of_lt (blk_lt (g := gb308) (o := .cells #[.int .i64 a1_0, .int .i64 a1_1, .int .i64 a1_2] 41 (0, 0)) (by (with_reducible repeat (first | refine blk_drewN ?_ _ | refine blk_drew ?_ | refine blk_alloc ?_ _)); exact BK308.out)) : gb308 ≠ gb310))
     have n10_ := Aside0.mk ((by rw [hg]; exact Nat.ne_of_gt (blk_lt (g := gb308) (o := .cells #[.int .i64 a1_0, .int .i64 a1_1, .int .i64 a1_2] 41 (0, 0)) (by (with_reducible repeat (first | refine blk_drewN ?_ _ | refine blk_drew ?_ | refine blk_alloc ?_ _)); exact BK308.out)) : gb310 ≠ gb308))
     have n11_ := Aside0.mk ((by rw [hg]; exact Nat.ne_of_lt (blk_lt (g := gb309) (o := .cells #[.int .i64 0, .int .i64 0, .int .i64 0] 43 (0, 0)) (by (with_reducible repeat (first | refine blk_drewN ?_ _ | refine blk_drew ?_ | refine blk_alloc ?_ _)); exact BK309.out)) : gb309 ≠ gb310))
     have n12_ := Aside0.mk ((by rw [hg]; exact Nat.ne_of_gt (blk_lt (g := gb309) (o := .cells #[.int .i64 0, .int .i64 0, .int .i64 0] 43 (0, 0)) (by (with_reducible repeat (first | refine blk_drewN ?_ _ | refine blk_drew ?_ | refine blk_alloc ?_ _)); exact BK309.out)) : gb310 ≠ gb309))
     clear BK307
     clear BK308
     clear BK309
     clear HB
     have BK307 := n0_
     have BK308 := n1_
     have BK309 := n2_
     have HB := n3_
     have BK310 := n4_
     have GW310 := n5_
     have GE310 := n6_
     have NB307_310 := n7_
     have NB310_307 := n8_
     have NB308_310 := n9_
     have NB310_308 := n10_
     have NB309_310 := n11_
     have NB310_309 := n12_
     clear n0_ n1_ n2_ n3_ n4_ n5_ n6_ n7_ n8_ n9_ n10_ n11_ n12_
     clear hb hbox hg
     refine hK.out _ _ ⟨(blk_cell BK307.out 0).trans rfl, (blk_cell BK307.out 1).trans rfl, (blk_cell BK307.out 2).trans rfl, (blk_cell BK308.out 0).trans rfl, (blk_cell BK308.out 1).trans rfl, (blk_cell BK308.out 2).trans rfl⟩ (fun hHeld => ?_)
     clear hK K
     refine norm_ (a' := ?_) ?_ ?_
     rotate_left
     ·show Act.put _ (some 6) _ = _
      simp only [Act.put, List.setIfInBounds_toArray, List.set_cons_zero, List.set_cons_succ, i64_w, i32_w]
      rfl
     exact norm_ (by simp only [putAll, Act.put, List.setIfInBounds_toArray, List.set_cons_zero, List.set_cons_succ]) (hCont (gb309, gb310) _ ⟨hHeld, (by (with_reducible repeat (first | refine blk_drewN ?_ _ | refine blk_drew ?_ | refine blk_alloc ?_ _)); exact BK307.out), (by (with_reducible repeat (first | refine blk_drewN ?_ _ | refine blk_drew ?_ | refine blk_alloc ?_ _)); exact BK308.out), (by (with_reducible repeat (first | refine blk_drewN ?_ _ | refine blk_drew ?_ | refine blk_alloc ?_ _)); exact BK309.out), (by (with_reducible repeat (first | refine blk_drewN ?_ _ | refine blk_drew ?_ | refine blk_alloc ?_ _)); exact BK310.out), GW309.out, GE309.out, NB307_309.out, NB309_307.out, NB308_309.out, NB309_308.out, NB310_309.out, NB309_310.out, GW310.out, GE310.out, NB307_310.out, NB310_307.out, NB308_310.out, NB310_308.out, (by repeat (first | (with_reducible first | exact HB.out | apply below_alloc | apply pw_below_drewN | apply below_drew1 | refine below_set ?_ GE307.out | refine below_set ?_ GE308.out | refine below_set ?_ GE309.out | refine below_set ?_ GE310.out) | exact HB.out))⟩)
    ·skip
     refine box_step ?hg (N := 6) ?hd (cs := #[.int .i64 0, .int .i64 0, .int .i64 0]) (t := 43) ?hr ?_; (case hd => rfl); (case hg => rfl); (case hr => first | (go_simp; done) | (go_simp; rfl))
     intro gb310 hg w13 hbox hb
     have n0_ := Aside0.mk (blk_below (g := gb307) (o := .cells #[.int .i64 a0_0, .int .i64 a0_1, .int .i64 a0_2] 41 (0, 0)) (by (with_reducible repeat (first | refine blk_drewN ?_ _ | refine blk_drew ?_ | refine blk_alloc ?_ _)); exact BK307.out) hb)
     have n1_ := Aside0.mk (blk_below (g := gb308) (o := .cells #[.int .i64 a1_0, .int .i64 a1_1, .int .i64 a1_2] 41 (0, 0)) (by (with_reducible repeat (first | refine blk_drewN ?_ _ | refine blk_drew ?_ | refine blk_alloc ?_ _)); exact BK308.out) hb)
     have n2_ := Aside0.mk (below_step (by repeat (first | (with_reducible first | exact HB.out | apply below_alloc | apply pw_below_drewN | apply below_drew1 | refine below_set ?_ GE307.out | refine below_set ?_ GE308.out) | exact HB.out)) hb)
     have n3_ := Aside0.mk (hbox)
     have n4_ := Aside0.mk ((by rw [hg]; exact (below_size (by repeat (first | (with_reducible first | exact HB.out | apply below_alloc | apply pw_below_drewN | apply below_drew1 | refine below_set ?_ GE307.out | refine below_set ?_ GE308.out) | exact HB.out))) : w.heap.size ≤ gb310))
     have n5_ := Aside0.mk ((by rw [hg]; exact (below_size (by repeat (first | (with_reducible first | exact HB.out | apply below_alloc | apply pw_below_drewN | apply below_drew1 | refine below_set ?_ GE307.out | refine below_set ?_ GE308.out) | exact HB.out))) : w.heap.size ≤ gb310))
     have n6_ := Aside0.mk ((by rw [hg]; exact Nat.ne_of_lt (blk_lt (g := gb307) (o := .cells #[.int .i64 a0_0, .int .i64 a0_1, .int .i64 a0_2] 41 (0, 0)) (by (with_reducible repeat (first | refine blk_drewN ?_ _ | refine blk_drew ?_ | refine blk_alloc ?_ _)); exact BK307.out)) : gb307 ≠ gb310))
     have n7_ := Aside0.mk ((by rw [hg]; exact Nat.ne_of_gt (blk_lt (g := gb307) (o := .cells #[.int .i64 a0_0, .int .i64 a0_1, .int .i64 a0_2] 41 (0, 0)) (by (with_reducible repeat (first | refine blk_drewN ?_ _ | refine blk_drew ?_ | refine blk_alloc ?_ _)); exact BK307.out)) : gb310 ≠ gb307))
     have n8_ := Aside0.mk ((by rw [hg]; exact Nat.ne_of_lt (blk_lt (g := gb308) (o := .cells #[.int .i64 a1_0, .int .i64 a1_1, .int .i64 a1_2] 41 (0, 0)) (by (with_reducible repeat (first | refine blk_drewN ?_ _ | refine blk_drew ?_ | refine blk_alloc ?_ _)); exact BK308.out)) : gb308 ≠ gb310))
     have n9_ := Aside0.mk ((by rw [hg]; exact Nat.ne_of_gt (blk_lt (g := gb308) (o := .cells #[.int .i64 a1_0, .int .i64 a1_1, .int .i64 a1_2] 41 (0, 0)) (by (with_reducible repeat (first | refine blk_drewN ?_ _ | refine blk_drew ?_ | refine blk_alloc ?_ _)); exact BK308.out)) : gb310 ≠ gb308))
     clear BK307
     clear BK308
     clear HB
     have BK307 := n0_
     have BK308 := n1_
     have HB := n2_
     have BK310 := n3_
     have GW310 := n4_
     have GE310 := n5_
     have NB307_310 := n6_
     have NB310_307 := n7_
     have NB308_310 := n8_
     have NB310_308 := n9_
     clear n0_ n1_ n2_ n3_ n4_ n5_ n6_ n7_ n8_ n9_
     clear hb hbox hg
     refine hK.out _ _ ⟨(blk_cell BK307.out 0).trans rfl, (blk_cell BK307.out 1).trans rfl, (blk_cell BK307.out 2).trans rfl, (blk_cell BK308.out 0).trans rfl, (blk_cell BK308.out 1).trans rfl, (blk_cell BK308.out 2).trans rfl⟩ (fun hHeld => ?_)
     clear hK K
     refine norm_ (a' := ?_) ?_ ?_
     rotate_left
     ·show Act.put _ (some 6) _ = _
      simp only [Act.put, List.setIfInBounds_toArray, List.set_cons_zero, List.set_cons_succ, i64_w, i32_w]
      rfl
     refine one_ (i := 2) (N := some 5) #[true, true, true, true, false, false] rfl rfl (by kernel_rfl) (by decide) (fun K hK => ?_)
     refine box_step ?hg (N := 5) ?hd (cs := #[.int .i64 0, .int .i64 0, .int .i64 0]) (t := 43) ?hr ?_; (case hd => rfl); (case hg => rfl); (case hr => first | (go_simp; done) | (go_simp; rfl))
     intro gb309 hg w14 hbox hb
     have n0_ := Aside0.mk (blk_below (g := gb307) (o := .cells #[.int .i64 a0_0, .int .i64 a0_1, .int .i64 a0_2] 41 (0, 0)) (by (with_reducible repeat (first | refine blk_drewN ?_ _ | refine blk_drew ?_ | refine blk_alloc ?_ _)); exact BK307.out) hb)
     have n1_ := Aside0.mk (blk_below (g := gb308) (o := .cells #[.int .i64 a1_0, .int .i64 a1_1, .int .i64 a1_2] 41 (0, 0)) (by (with_reducible repeat (first | refine blk_drewN ?_ _ | refine blk_drew ?_ | refine blk_alloc ?_ _)); exact BK308.out) hb)
     have n2_ := Aside0.mk (blk_below (g := gb310) (o := .cells #[.int .i64 0, .int .i64 0, .int .i64 0] 43 (0, 0)) (by (with_reducible repeat (first | refine blk_drewN ?_ _ | refine blk_drew ?_ | refine blk_alloc ?_ _)); exact BK310.out) hb)
     have n3_ := Aside0.mk (below_step (by repeat (first | (with_reducible first | exact HB.out | apply below_alloc | apply pw_below_drewN | apply below_drew1 | refine below_set ?_ GE307.out | refine below_set ?_ GE308.out | refine below_set ?_ GE310.out) | exact HB.out)) hb)
     have n4_ := Aside0.mk (hbox)
     have n5_ := Aside0.mk ((by rw [hg]; exact (below_size (by repeat (first | (with_reducible first | exact HB.out | apply below_alloc | apply pw_below_drewN | apply below_drew1 | refine below_set ?_ GE307.out | refine below_set ?_ GE308.out | refine below_set ?_ GE310.out) | exact HB.out))) : w.heap.size ≤ gb309))
     have n6_ := Aside0.mk ((by rw [hg]; exact (below_size (by repeat (first | (with_reducible first | exact HB.out | apply below_alloc | apply pw_below_drewN | apply below_drew1 | refine below_set ?_ GE307.out | refine below_set ?_ GE308.out | refine below_set ?_ GE310.out) | exact HB.out))) : w.heap.size ≤ gb309))
     have n7_ := Aside0.mk ((by rw [hg]; exact Nat.ne_of_lt (blk_lt (g := gb307) (o := .cells #[.int .i64 a0_0, .int .i64 a0_1, .int .i64 a0_2] 41 (0, 0)) (by (with_reducible repeat (first | refine blk_drewN ?_ _ | refine blk_drew ?_ | refine blk_alloc ?_ _)); exact BK307.out)) : gb307 ≠ gb309))
     have n8_ := Aside0.mk ((by rw [hg]; exact Nat.ne_of_gt (blk_lt (g := gb307) (o := .cells #[.int .i64 a0_0, .int .i64 a0_1, .int .i64 a0_2] 41 (0, 0)) (by (with_reducible repeat (first | refine blk_drewN ?_ _ | refine blk_drew ?_ | refine blk_alloc ?_ _)); exact BK307.out)) : gb309 ≠ gb307))
     have n9_ := Aside0.mk ((by rw [hg]; exact Nat.ne_of_lt (blk_lt (g := gb308) (o := .cells #[.int .i64 a1_0, .int .i64 a1_1, .int .i64 a1_2] 41 (0, 0)) (by (with_reducible repeat (first | refine blk_drewN ?_ _ | refine blk_drew ?_ | refine blk_alloc ?_ _)); exact BK308.out)) : gb308 ≠ gb309))
     have n10_ := Aside0.mk ((by rw [hg]; exact Nat.ne_of_gt (blk_lt (g := gb308) (o := .cells #[.int .i64 a1_0, .int .i64 a1_1, .int .i64 a1_2] 41 (0, 0)) (by (with_reducible repeat (first | refine blk_drewN ?_ _ | refine blk_drew ?_ | refine blk_alloc ?_ _)); exact BK308.out)) : gb309 ≠ gb308))
     have n11_ := Aside0.mk ((by rw [hg]; exact Nat.ne_of_lt (blk_lt (g := gb310) (o := .cells #[.int .i64 0, .int .i64 0, .int .i64 0] 43 (0, 0)) (by (with_reducible repeat (first | refine blk_drewN ?_ _ | refine blk_drew ?_ | refine blk_alloc ?_ _)); exact BK310.out)) : gb310 ≠ gb309))
     have n12_ := Aside0.mk ((by rw [hg]; exact Nat.ne_of_gt (blk_lt (g := gb310) (o := .cells #[.int .i64 0, .int .i64 0, .int .i64 0] 43 (0, 0)) (by (with_reducible repeat (first | refine blk_drewN ?_ _ | refine blk_drew ?_ | refine blk_alloc ?_ _)); exact BK310.out)) : gb309 ≠ gb310))
     clear BK307
     clear BK308
     clear BK310
     clear HB
     have BK307 := n0_
     have BK308 := n1_
     have BK310 := n2_
     have HB := n3_
     have BK309 := n4_
     have GW309 := n5_
     have GE309 := n6_
     have NB307_309 := n7_
     have NB309_307 := n8_
     have NB308_309 := n9_
     have NB309_308 := n10_
     have NB310_309 := n11_
     have NB309_310 := n12_
     clear n0_ n1_ n2_ n3_ n4_ n5_ n6_ n7_ n8_ n9_ n10_ n11_ n12_
     clear hb hbox hg
     refine hK.out _ _ ⟨(blk_cell BK307.out 0).trans rfl, (blk_cell BK307.out 1).trans rfl, (blk_cell BK307.out 2).trans rfl, (blk_cell BK308.out 0).trans rfl, (blk_cell BK308.out 1).trans rfl, (blk_cell BK308.out 2).trans rfl⟩ (fun hHeld => ?_)
     clear hK K
     refine norm_ (a' := ?_) ?_ ?_
     rotate_left
     ·show Act.put _ (some 5) _ = _
      simp only [Act.put, List.setIfInBounds_toArray, List.set_cons_zero, List.set_cons_succ, i64_w, i32_w]
      rfl
     exact norm_ (by simp only [putAll, Act.put, List.setIfInBounds_toArray, List.set_cons_zero, List.set_cons_succ]) (hCont (gb309, gb310) _ ⟨hHeld, (by (with_reducible repeat (first | refine blk_drewN ?_ _ | refine blk_drew ?_ | refine blk_alloc ?_ _)); exact BK307.out), (by (with_reducible repeat (first | refine blk_drewN ?_ _ | refine blk_drew ?_ | refine blk_alloc ?_ _)); exact BK308.out), (by (with_reducible repeat (first | refine blk_drewN ?_ _ | refine blk_drew ?_ | refine blk_alloc ?_ _)); exact BK309.out), (by (with_reducible repeat (first | refine blk_drewN ?_ _ | refine blk_drew ?_ | refine blk_alloc ?_ _)); exact BK310.out), GW309.out, GE309.out, NB307_309.out, NB309_307.out, NB308_309.out, NB309_308.out, NB310_309.out, NB309_310.out, GW310.out, GE310.out, NB307_310.out, NB310_307.out, NB308_310.out, NB310_308.out, (by repeat (first | (with_reducible first | exact HB.out | apply below_alloc | apply pw_below_drewN | apply below_drew1 | refine below_set ?_ GE307.out | refine below_set ?_ GE308.out | refine below_set ?_ GE310.out | refine below_set ?_ GE309.out) | exact HB.out))⟩)
   rintro ⟨gb309, gb310⟩ w15 ⟨hS_, h0_, h1_, h2_, h3_, h4_, h5_, h6_, h7_, h8_, h9_, h10_, h11_, h12_, h13_, h14_, h15_, h16_, h17_, h18_⟩
   have n0_ : Aside0 (w15.heap[gb307]? = some (.cells #[.int .i64 a0_0, .int .i64 a0_1, .int .i64 a0_2] 41 (0, 0))) := ⟨h0_⟩
   have n1_ : Aside0 (w15.heap[gb308]? = some (.cells #[.int .i64 a1_0, .int .i64 a1_1, .int .i64 a1_2] 41 (0, 0))) := ⟨h1_⟩
   have n2_ : Aside0 (w15.heap[gb309]? = some (.cells #[.int .i64 0, .int .i64 0, .int .i64 0] 43 (0, 0))) := ⟨h2_⟩
   have n3_ : Aside0 (w15.heap[gb310]? = some (.cells #[.int .i64 0, .int .i64 0, .int .i64 0] 43 (0, 0))) := ⟨h3_⟩
   have n4_ : Aside0 (w.heap.size ≤ gb309) := ⟨h4_⟩
   have n5_ : Aside0 (w.heap.size ≤ gb309) := ⟨h5_⟩
   have n6_ : Aside0 (gb307 ≠ gb309) := ⟨h6_⟩
   have n7_ : Aside0 (gb309 ≠ gb307) := ⟨h7_⟩
   have n8_ : Aside0 (gb308 ≠ gb309) := ⟨h8_⟩
   have n9_ : Aside0 (gb309 ≠ gb308) := ⟨h9_⟩
   have n10_ : Aside0 (gb310 ≠ gb309) := ⟨h10_⟩
   have n11_ : Aside0 (gb309 ≠ gb310) := ⟨h11_⟩
   have n12_ : Aside0 (w.heap.size ≤ gb310) := ⟨h12_⟩
   have n13_ : Aside0 (w.heap.size ≤ gb310) := ⟨h13_⟩
   have n14_ : Aside0 (gb307 ≠ gb310) := ⟨h14_⟩
   have n15_ : Aside0 (gb310 ≠ gb307) := ⟨h15_⟩
   have n16_ : Aside0 (gb308 ≠ gb310) := ⟨h16_⟩
   have n17_ : Aside0 (gb310 ≠ gb308) := ⟨h17_⟩
   have n18_ : Aside0 (Below w.heap.size w w15) := ⟨h18_⟩
   clear BK307
   clear BK308
   clear HB
   clear h0_ h1_ h2_ h3_ h4_ h5_ h6_ h7_ h8_ h9_ h10_ h11_ h12_ h13_ h14_ h15_ h16_ h17_ h18_
   have BK307 := n0_
   have BK308 := n1_
   have BK309 := n2_
   have BK310 := n3_
   have GW309 := n4_
   have GE309 := n5_
   have NB307_309 := n6_
   have NB309_307 := n7_
   have NB308_309 := n8_
   have NB309_308 := n9_
   have NB310_309 := n10_
   have NB309_310 := n11_
   have GW310 := n12_
   have GE310 := n13_
   have NB307_310 := n14_
   have NB310_307 := n15_
   have NB308_310 := n16_
   have NB310_308 := n17_
   have HB := n18_
   clear n0_ n1_ n2_ n3_ n4_ n5_ n6_ n7_ n8_ n9_ n10_ n11_ n12_ n13_ n14_ n15_ n16_ n17_ n18_
   have hHeld : w15.cell? ⟨gb307, 0, none⟩ = some (.int .i64 a0_0) ∧ w15.cell? ⟨gb307, 1, none⟩ = some (.int .i64 a0_1) ∧ w15.cell? ⟨gb307, 2, none⟩ = some (.int .i64 a0_2) ∧ w15.cell? ⟨gb308, 0, none⟩ = some (.int .i64 a1_0) ∧ w15.cell? ⟨gb308, 1, none⟩ = some (.int .i64 a1_1) ∧ w15.cell? ⟨gb308, 2, none⟩ = some (.int .i64 a1_2) := hS_
   refine norm_ (a' := ?_) ?_ ?_
   rotate_left
   ·simp only [putAll, Act.put, List.setIfInBounds_toArray, List.set_cons_zero, List.set_cons_succ]
    rfl
   refine one_ (i := 4) (N := none) #[true, true, true, true, true, false] rfl rfl (by kernel_rfl) (by decide) (fun K hK => ?_)
   have hs16 : w15.cell? ⟨gb309, 0, none⟩ = some (.int .i64 0) := (blk_cell BK309.out 0).trans rfl
   have hfs16 := blk_frozen BK309.out 0
   have hns16_0 := NB307_309.out
   have hns16_1 := NB308_309.out
   have hns16_3 := NB310_309.out
   have hms16_0 := NB309_307.out
   have hms16_1 := NB309_308.out
   have hms16_3 := NB309_310.out
   have hs17 : w15.cell? ⟨gb309, 1, none⟩ = some (.int .i64 0) := (blk_cell BK309.out 1).trans rfl
   have hfs17 := blk_frozen BK309.out 1
   have hns17_0 := NB307_309.out
   have hns17_1 := NB308_309.out
   have hns17_3 := NB310_309.out
   have hms17_0 := NB309_307.out
   have hms17_1 := NB309_308.out
   have hms17_3 := NB309_310.out
   have hs18 : w15.cell? ⟨gb309, 2, none⟩ = some (.int .i64 0) := (blk_cell BK309.out 2).trans rfl
   have hfs18 := blk_frozen BK309.out 2
   have hns18_0 := NB307_309.out
   have hns18_1 := NB308_309.out
   have hns18_3 := NB310_309.out
   have hms18_0 := NB309_307.out
   have hms18_1 := NB309_308.out
   have hms18_3 := NB309_310.out
   refine skip_ (w1 := ?_) (by rfl) rfl ?_ ?_
   rotate_left
   ·go_simp
    rfl
   refine hK.out _ _ ⟨((cell_far (p := ⟨gb309, _, none⟩) NB307_309.out _).trans (((cell_far (p := ⟨gb309, _, none⟩) NB307_309.out _).trans (((cell_far (p := ⟨gb309, _, none⟩) NB307_309.out _).trans (hHeld.1)))))), ((cell_far (p := ⟨gb309, _, none⟩) NB307_309.out _).trans (((cell_far (p := ⟨gb309, _, none⟩) NB307_309.out _).trans (((cell_far (p := ⟨gb309, _, none⟩) NB307_309.out _).trans (hHeld.2.1)))))), ((cell_far (p := ⟨gb309, _, none⟩) NB307_309.out _).trans (((cell_far (p := ⟨gb309, _, none⟩) NB307_309.out _).trans (((cell_far (p := ⟨gb309, _, none⟩) NB307_309.out _).trans (hHeld.2.2.1)))))), ((cell_far (p := ⟨gb309, _, none⟩) NB308_309.out _).trans (((cell_far (p := ⟨gb309, _, none⟩) NB308_309.out _).trans (((cell_far (p := ⟨gb309, _, none⟩) NB308_309.out _).trans (hHeld.2.2.2.1)))))), ((cell_far (p := ⟨gb309, _, none⟩) NB308_309.out _).trans (((cell_far (p := ⟨gb309, _, none⟩) NB308_309.out _).trans (((cell_far (p := ⟨gb309, _, none⟩) NB308_309.out _).trans (hHeld.2.2.2.2.1)))))), ((cell_far (p := ⟨gb309, _, none⟩) NB308_309.out _).trans (((cell_far (p := ⟨gb309, _, none⟩) NB308_309.out _).trans (((cell_far (p := ⟨gb309, _, none⟩) NB308_309.out _).trans (hHeld.2.2.2.2.2))))))⟩ (fun hHeld => ?_)
   clear hK K
   refine one_ (i := 5) (N := none) #[true, true, true, true, true, true] rfl rfl (by kernel_rfl) (by decide) (fun K hK => ?_)
   have hs19 : w15.cell? ⟨gb310, 0, none⟩ = some (.int .i64 0) := (blk_cell BK310.out 0).trans rfl
   have hfs19 := blk_frozen BK310.out 0
   have hns19_0 := NB307_310.out
   have hns19_1 := NB308_310.out
   have hns19_2 := NB309_310.out
   have hms19_0 := NB310_307.out
   have hms19_1 := NB310_308.out
   have hms19_2 := NB310_309.out
   have hs20 : w15.cell? ⟨gb310, 1, none⟩ = some (.int .i64 0) := (blk_cell BK310.out 1).trans rfl
   have hfs20 := blk_frozen BK310.out 1
   have hns20_0 := NB307_310.out
   have hns20_1 := NB308_310.out
   have hns20_2 := NB309_310.out
   have hms20_0 := NB310_307.out
   have hms20_1 := NB310_308.out
   have hms20_2 := NB310_309.out
   have hs21 : w15.cell? ⟨gb310, 2, none⟩ = some (.int .i64 0) := (blk_cell BK310.out 2).trans rfl
   have hfs21 := blk_frozen BK310.out 2
   have hns21_0 := NB307_310.out
   have hns21_1 := NB308_310.out
   have hns21_2 := NB309_310.out
   have hms21_0 := NB310_307.out
   have hms21_1 := NB310_308.out
   have hms21_2 := NB310_309.out
   refine skip_ (w1 := ?_) (by rfl) rfl ?_ ?_
   rotate_left
   ·go_simp
    rfl
   refine hK.out _ _ ⟨((cell_far (p := ⟨gb310, _, none⟩) NB307_310.out _).trans (((cell_far (p := ⟨gb310, _, none⟩) NB307_310.out _).trans (((cell_far (p := ⟨gb310, _, none⟩) NB307_310.out _).trans (hHeld.1)))))), ((cell_far (p := ⟨gb310, _, none⟩) NB307_310.out _).trans (((cell_far (p := ⟨gb310, _, none⟩) NB307_310.out _).trans (((cell_far (p := ⟨gb310, _, none⟩) NB307_310.out _).trans (hHeld.2.1)))))), ((cell_far (p := ⟨gb310, _, none⟩) NB307_310.out _).trans (((cell_far (p := ⟨gb310, _, none⟩) NB307_310.out _).trans (((cell_far (p := ⟨gb310, _, none⟩) NB307_310.out _).trans (hHeld.2.2.1)))))), ((cell_far (p := ⟨gb310, _, none⟩) NB308_310.out _).trans (((cell_far (p := ⟨gb310, _, none⟩) NB308_310.out _).trans (((cell_far (p := ⟨gb310, _, none⟩) NB308_310.out _).trans (hHeld.2.2.2.1)))))), ((cell_far (p := ⟨gb310, _, none⟩) NB308_310.out _).trans (((cell_far (p := ⟨gb310, _, none⟩) NB308_310.out _).trans (((cell_far (p := ⟨gb310, _, none⟩) NB308_310.out _).trans (hHeld.2.2.2.2.1)))))), ((cell_far (p := ⟨gb310, _, none⟩) NB308_310.out _).trans (((cell_far (p := ⟨gb310, _, none⟩) NB308_310.out _).trans (((cell_far (p := ⟨gb310, _, none⟩) NB308_310.out _).trans (hHeld.2.2.2.2.2))))))⟩ (fun hHeld => ?_)
   clear hK K
   refine done_ (by kernel_rfl) ?_
   try go_wp2
   have n0_ : Aside0 (((((((w15.setCell ⟨gb309, 0, none⟩ (.int .i64 a0_0)).setCell ⟨gb309, 1, none⟩ (.int .i64 a0_1)).setCell ⟨gb309, 2, none⟩ (.int .i64 a0_2)).setCell ⟨gb310, 0, none⟩ (.int .i64 a1_0)).setCell ⟨gb310, 1, none⟩ (.int .i64 a1_1)).setCell ⟨gb310, 2, none⟩ (.int .i64 a1_2)).heap[gb307]? = some (.cells #[.int .i64 a0_0, .int .i64 a0_1, .int .i64 a0_2] 41 (0, 0))) := ⟨by (with_reducible repeat (first | refine blk_drewN ?_ _ | refine blk_drew ?_ | refine blk_alloc ?_ _)); refine blk_far ?_ NB307_310.out _; (with_reducible repeat (first | refine blk_drewN ?_ _ | refine blk_drew ?_ | refine blk_alloc ?_ _)); refine blk_far ?_ NB307_310.out _; (with_reducible repeat (first | refine blk_drewN ?_ _ | refine blk_drew ?_ | refine blk_alloc ?_ _)); refine blk_far ?_ NB307_310.out _; (with_reducible repeat (first | refine blk_drewN ?_ _ | refine blk_drew ?_ | refine blk_alloc ?_ _)); refine blk_far ?_ NB307_309.out _; (with_reducible repeat (first | refine blk_drewN ?_ _ | refine blk_drew ?_ | refine blk_alloc ?_ _)); refine blk_far ?_ NB307_309.out _; (with_reducible repeat (first | refine blk_drewN ?_ _ | refine blk_drew ?_ | refine blk_alloc ?_ _)); refine blk_far ?_ NB307_309.out _; (with_reducible repeat (first | refine blk_drewN ?_ _ | refine blk_drew ?_ | refine blk_alloc ?_ _)); exact BK307.out⟩
   have n1_ : Aside0 (((((((w15.setCell ⟨gb309, 0, none⟩ (.int .i64 a0_0)).setCell ⟨gb309, 1, none⟩ (.int .i64 a0_1)).setCell ⟨gb309, 2, none⟩ (.int .i64 a0_2)).setCell ⟨gb310, 0, none⟩ (.int .i64 a1_0)).setCell ⟨gb310, 1, none⟩ (.int .i64 a1_1)).setCell ⟨gb310, 2, none⟩ (.int .i64 a1_2)).heap[gb308]? = some (.cells #[.int .i64 a1_0, .int .i64 a1_1, .int .i64 a1_2] 41 (0, 0))) := ⟨by (with_reducible repeat (first | refine blk_drewN ?_ _ | refine blk_drew ?_ | refine blk_alloc ?_ _)); refine blk_far ?_ NB308_310.out _; (with_reducible repeat (first | refine blk_drewN ?_ _ | refine blk_drew ?_ | refine blk_alloc ?_ _)); refine blk_far ?_ NB308_310.out _; (with_reducible repeat (first | refine blk_drewN ?_ _ | refine blk_drew ?_ | refine blk_alloc ?_ _)); refine blk_far ?_ NB308_310.out _; (with_reducible repeat (first | refine blk_drewN ?_ _ | refine blk_drew ?_ | refine blk_alloc ?_ _)); refine blk_far ?_ NB308_309.out _; (with_reducible repeat (first | refine blk_drewN ?_ _ | refine blk_drew ?_ | refine blk_alloc ?_ _)); refine blk_far ?_ NB308_309.out _; (with_reducible repeat (first | refine blk_drewN ?_ _ | refine blk_drew ?_ | refine blk_alloc ?_ _)); refine blk_far ?_ NB308_309.out _; (with_reducible repeat (first | refine blk_drewN ?_ _ | refine blk_drew ?_ | refine blk_alloc ?_ _)); exact BK308.out⟩
   have n2_ : Aside0 (((((((w15.setCell ⟨gb309, 0, none⟩ (.int .i64 a0_0)).setCell ⟨gb309, 1, none⟩ (.int .i64 a0_1)).setCell ⟨gb309, 2, none⟩ (.int .i64 a0_2)).setCell ⟨gb310, 0, none⟩ (.int .i64 a1_0)).setCell ⟨gb310, 1, none⟩ (.int .i64 a1_1)).setCell ⟨gb310, 2, none⟩ (.int .i64 a1_2)).heap[gb309]? = some (.cells #[.int .i64 a0_0, .int .i64 a0_1, .int .i64 a0_2] 43 (0, 0))) := ⟨by (with_reducible repeat (first | refine blk_drewN ?_ _ | refine blk_drew ?_ | refine blk_alloc ?_ _)); refine blk_far ?_ NB309_310.out _; (with_reducible repeat (first | refine blk_drewN ?_ _ | refine blk_drew ?_ | refine blk_alloc ?_ _)); refine blk_far ?_ NB309_310.out _; (with_reducible repeat (first | refine blk_drewN ?_ _ | refine blk_drew ?_ | refine blk_alloc ?_ _)); refine blk_far ?_ NB309_310.out _; (with_reducible repeat (first | refine blk_drewN ?_ _ | refine blk_drew ?_ | refine blk_alloc ?_ _)); refine blk_put (cs := #[.int .i64 a0_0, .int .i64 a0_1, .int .i64 0]) ?_ 2 _ rfl; (with_reducible repeat (first | refine blk_drewN ?_ _ | refine blk_drew ?_ | refine blk_alloc ?_ _)); refine blk_put (cs := #[.int .i64 a0_0, .int .i64 0, .int .i64 0]) ?_ 1 _ rfl; (with_reducible repeat (first | refine blk_drewN ?_ _ | refine blk_drew ?_ | refine blk_alloc ?_ _)); refine blk_put (cs := #[.int .i64 0, .int .i64 0, .int .i64 0]) ?_ 0 _ rfl; (with_reducible repeat (first | refine blk_drewN ?_ _ | refine blk_drew ?_ | refine blk_alloc ?_ _)); exact BK309.out⟩
   have n3_ : Aside0 (((((((w15.setCell ⟨gb309, 0, none⟩ (.int .i64 a0_0)).setCell ⟨gb309, 1, none⟩ (.int .i64 a0_1)).setCell ⟨gb309, 2, none⟩ (.int .i64 a0_2)).setCell ⟨gb310, 0, none⟩ (.int .i64 a1_0)).setCell ⟨gb310, 1, none⟩ (.int .i64 a1_1)).setCell ⟨gb310, 2, none⟩ (.int .i64 a1_2)).heap[gb310]? = some (.cells #[.int .i64 a1_0, .int .i64 a1_1, .int .i64 a1_2] 43 (0, 0))) := ⟨by (with_reducible repeat (first | refine blk_drewN ?_ _ | refine blk_drew ?_ | refine blk_alloc ?_ _)); refine blk_put (cs := #[.int .i64 a1_0, .int .i64 a1_1, .int .i64 0]) ?_ 2 _ rfl; (with_reducible repeat (first | refine blk_drewN ?_ _ | refine blk_drew ?_ | refine blk_alloc ?_ _)); refine blk_put (cs := #[.int .i64 a1_0, .int .i64 0, .int .i64 0]) ?_ 1 _ rfl; (with_reducible repeat (first | refine blk_drewN ?_ _ | refine blk_drew ?_ | refine blk_alloc ?_ _)); refine blk_put (cs := #[.int .i64 0, .int .i64 0, .int .i64 0]) ?_ 0 _ rfl; (with_reducible repeat (first | refine blk_drewN ?_ _ | refine blk_drew ?_ | refine blk_alloc ?_ _)); refine blk_far ?_ NB310_309.out _; (with_reducible repeat (first | refine blk_drewN ?_ _ | refine blk_drew ?_ | refine blk_alloc ?_ _)); refine blk_far ?_ NB310_309.out _; (with_reducible repeat (first | refine blk_drewN ?_ _ | refine blk_drew ?_ | refine blk_alloc ?_ _)); refine blk_far ?_ NB310_309.out _; (with_reducible repeat (first | refine blk_drewN ?_ _ | refine blk_drew ?_ | refine blk_alloc ?_ _)); exact BK310.out⟩
   have n4_ : Aside0 (Below w.heap.size w ((((((w15.setCell ⟨gb309, 0, none⟩ (.int .i64 a0_0)).setCell ⟨gb309, 1, none⟩ (.int .i64 a0_1)).setCell ⟨gb309, 2, none⟩ (.int .i64 a0_2)).setCell ⟨gb310, 0, none⟩ (.int .i64 a1_0)).setCell ⟨gb310, 1, none⟩ (.int .i64 a1_1)).setCell ⟨gb310, 2, none⟩ (.int .i64 a1_2))) := ⟨by repeat (first | (with_reducible first | exact HB.out | apply below_alloc | apply pw_below_drewN | apply below_drew1 | refine below_set ?_ GE307.out | refine below_set ?_ GE308.out | refine below_set ?_ GE309.out | refine below_set ?_ GE310.out) | exact HB.out)⟩
   (try clear BK307)
   (try clear BK308)
   (try clear BK309)
   (try clear BK310)
   (try clear HB)
   generalize ((((((w15.setCell ⟨gb309, 0, none⟩ (.int .i64 a0_0)).setCell ⟨gb309, 1, none⟩ (.int .i64 a0_1)).setCell ⟨gb309, 2, none⟩ (.int .i64 a0_2)).setCell ⟨gb310, 0, none⟩ (.int .i64 a1_0)).setCell ⟨gb310, 1, none⟩ (.int .i64 a1_1)).setCell ⟨gb310, 2, none⟩ (.int .i64 a1_2)) = w22 at n0_ n1_ n2_ n3_ n4_ ⊢
   have BK307 := n0_
   have BK308 := n1_
   have BK309 := n2_
   have BK310 := n3_
   have HB := n4_
   clear n0_ n1_ n2_ n3_ n4_
   have n0_ := Aside0.mk (blk_drew BK307.out)
   have n1_ := Aside0.mk (blk_drew BK308.out)
   have n2_ := Aside0.mk (blk_drew BK309.out)
   have n3_ := Aside0.mk (blk_drew BK310.out)
   have n4_ := Aside0.mk (below_drew1 HB.out)
   clear BK307
   clear BK308
   clear BK309
   clear BK310
   clear HB
   have BK307 := n0_
   have BK308 := n1_
   have BK309 := n2_
   have BK310 := n3_
   have HB := n4_
   clear n0_ n1_ n2_ n3_ n4_
   refine start_ (n := 20) (S := fun w' => w'.cell? ⟨gb307, 0, none⟩ = some (.int .i64 a0_0) ∧ w'.cell? ⟨gb307, 1, none⟩ = some (.int .i64 a0_1) ∧ w'.cell? ⟨gb307, 2, none⟩ = some (.int .i64 a0_2) ∧ w'.cell? ⟨gb308, 0, none⟩ = some (.int .i64 a1_0) ∧ w'.cell? ⟨gb308, 1, none⟩ = some (.int .i64 a1_1) ∧ w'.cell? ⟨gb308, 2, none⟩ = some (.int .i64 a1_2) ∧ w'.cell? ⟨gb309, 0, none⟩ = some (.int .i64 a0_0) ∧ w'.cell? ⟨gb309, 1, none⟩ = some (.int .i64 a0_1) ∧ w'.cell? ⟨gb309, 2, none⟩ = some (.int .i64 a0_2) ∧ w'.cell? ⟨gb310, 0, none⟩ = some (.int .i64 a1_0) ∧ w'.cell? ⟨gb310, 1, none⟩ = some (.int .i64 a1_1) ∧ w'.cell? ⟨gb310, 2, none⟩ = some (.int .i64 a1_2)) (ds := []) #[false, false, false, false, false, false, false, false, false, false, false, false, false, false, false, false, false, false, false, false] (by kernel_rfl) rfl rfl ⟨(blk_cell BK307.out 0).trans rfl, (blk_cell BK307.out 1).trans rfl, (blk_cell BK307.out 2).trans rfl, (blk_cell BK308.out 0).trans rfl, (blk_cell BK308.out 1).trans rfl, (blk_cell BK308.out 2).trans rfl, (blk_cell BK309.out 0).trans rfl, (blk_cell BK309.out 1).trans rfl, (blk_cell BK309.out 2).trans rfl, (blk_cell BK310.out 0).trans rfl, (blk_cell BK310.out 1).trans rfl, (blk_cell BK310.out 2).trans rfl⟩ (fun hHeld => ?_); refine with_tabW corporalaw10_TreelabelCompares.tab2 corporalaw10_TreelabelCompares.bits2 (fun HT_ HW_ => ?_)
   generalize w22.drew = w23 at BK307 BK308 BK309 BK310 HB hHeld ⊢
   refine take_ (i := 0) (N := some 9) (v := ?_) (a' := ?_) #[true, false, false, false, false, false, false, false, false, false, false, false, false, false, false, false, false, false, false, false] rfl rfl (take_ofW HT_.out HW_.out (by kernel_rfl)) (fun _ _ _ h => h) (Or.inl ⟨by rfl, ?_⟩) hHeld ?_ ?_
   rotate_left
   ·rintro w' ⟨s0, s1, s2, s3, s4, s5, s6, s7, s8, s9, s10, s11⟩
    go_simp
    with_reducible rfl
   rotate_left
   ·simp only [Act.put, List.setIfInBounds_toArray, List.set_cons_zero, List.set_cons_succ, i64_w, i32_w]
    rfl
   refine take_ (i := 1) (N := some 10) (v := ?_) (a' := ?_) #[true, true, false, false, false, false, false, false, false, false, false, false, false, false, false, false, false, false, false, false] rfl rfl (take_ofW HT_.out HW_.out (by kernel_rfl)) (fun _ _ _ h => h) (Or.inl ⟨by rfl, ?_⟩) hHeld ?_ ?_
   rotate_left
   ·rintro w' ⟨s0, s1, s2, s3, s4, s5, s6, s7, s8, s9, s10, s11⟩
    go_simp
    with_reducible rfl
   rotate_left
   ·simp only [Act.put, List.setIfInBounds_toArray, List.set_cons_zero, List.set_cons_succ, i64_w, i32_w]
    rfl
   refine take_ (i := 3) (N := some 12) (v := ?_) (a' := ?_) #[true, true, false, true, false, false, false, false, false, false, false, false, false, false, false, false, false, false, false, false] rfl rfl (take_ofW HT_.out HW_.out (by kernel_rfl)) (fun _ _ _ h => h) (Or.inl ⟨by rfl, ?_⟩) hHeld ?_ ?_
   rotate_left
   ·rintro w' ⟨s0, s1, s2, s3, s4, s5, s6, s7, s8, s9, s10, s11⟩
    go_simp
    with_reducible rfl
   rotate_left
   ·simp only [Act.put, List.setIfInBounds_toArray, List.set_cons_zero, List.set_cons_succ, i64_w, i32_w]
    rfl
   refine take_ (i := 4) (N := some 13) (v := ?_) (a' := ?_) #[true, true, false, true, true, false, false, false, false, false, false, false, false, false, false, false, false, false, false, false] rfl rfl (take_ofW HT_.out HW_.out (by kernel_rfl)) (fun _ _ _ h => h) (Or.inl ⟨by rfl, ?_⟩) hHeld ?_ ?_
   rotate_left
   ·rintro w' ⟨s0, s1, s2, s3, s4, s5, s6, s7, s8, s9, s10, s11⟩
    go_simp
    with_reducible rfl
   rotate_left
   ·simp only [Act.put, List.setIfInBounds_toArray, List.set_cons_zero, List.set_cons_succ, i64_w, i32_w]
    rfl
   refine one_ (i := 2) (N := some 11) #[true, true, true, true, true, false, false, false, false, false, false, false, false, false, false, false, false, false, false, false] rfl rfl (one_of HT_.out (by kernel_rfl)) (by decide) (fun K hK => ?_)
   refine goes_ Try.func20 (by kernel_rfl) rfl #[.agg #[.int .i64 a0_0, .int .i64 a0_1, .int .i64 a0_2], .agg #[.int .i64 a1_0, .int .i64 a1_1, .int .i64 a1_2]] (by rfl) rfl rfl (by (try simp only [List.map_toArray, List.map_cons, List.map_nil]); first | done | rfl | (simp only [List.length_drop, List.length_take]; rfl)) ?_
   with_reducible refine (treelabel_Dominates.calls a0_0 a0_1 a0_2 a1_0 a1_1 a1_2 t311 _ A3.out).mono ?_
   rintro e w24 ⟨rfl, hb⟩
   refine ⟨_, rfl, ?_⟩
   have n0_ := Aside0.mk (blk_below (g := gb307) (o := .cells #[.int .i64 a0_0, .int .i64 a0_1, .int .i64 a0_2] 41 (0, 0)) (by (with_reducible repeat (first | refine blk_drewN ?_ _ | refine blk_drew ?_ | refine blk_alloc ?_ _)); exact BK307.out) hb)
   have n1_ := Aside0.mk (blk_below (g := gb308) (o := .cells #[.int .i64 a1_0, .int .i64 a1_1, .int .i64 a1_2] 41 (0, 0)) (by (with_reducible repeat (first | refine blk_drewN ?_ _ | refine blk_drew ?_ | refine blk_alloc ?_ _)); exact BK308.out) hb)
   have n2_ := Aside0.mk (blk_below (g := gb309) (o := .cells #[.int .i64 a0_0, .int .i64 a0_1, .int .i64 a0_2] 43 (0, 0)) (by (with_reducible repeat (first | refine blk_drewN ?_ _ | refine blk_drew ?_ | refine blk_alloc ?_ _)); exact BK309.out) hb)
   have n3_ := Aside0.mk (blk_below (g := gb310) (o := .cells #[.int .i64 a1_0, .int .i64 a1_1, .int .i64 a1_2] 43 (0, 0)) (by (with_reducible repeat (first | refine blk_drewN ?_ _ | refine blk_drew ?_ | refine blk_alloc ?_ _)); exact BK310.out) hb)
   have n4_ := Aside0.mk (below_step (by repeat (first | (with_reducible first | exact HB.out | apply below_alloc | apply pw_below_drewN | apply below_drew1 | refine below_set ?_ GE307.out | refine below_set ?_ GE308.out | refine below_set ?_ GE309.out | refine below_set ?_ GE310.out) | exact HB.out)) hb)
   clear BK307
   clear BK308
   clear BK309
   clear BK310
   clear HB
   have BK307 := n0_
   have BK308 := n1_
   have BK309 := n2_
   have BK310 := n3_
   have HB := n4_
   clear n0_ n1_ n2_ n3_ n4_
   (try clear hb)
   (try clear hb2)
   (try clear hk)
   (try clear hi)
   refine hK.out _ _ ⟨(blk_cell BK307.out 0).trans rfl, (blk_cell BK307.out 1).trans rfl, (blk_cell BK307.out 2).trans rfl, (blk_cell BK308.out 0).trans rfl, (blk_cell BK308.out 1).trans rfl, (blk_cell BK308.out 2).trans rfl, (blk_cell BK309.out 0).trans rfl, (blk_cell BK309.out 1).trans rfl, (blk_cell BK309.out 2).trans rfl, (blk_cell BK310.out 0).trans rfl, (blk_cell BK310.out 1).trans rfl, (blk_cell BK310.out 2).trans rfl⟩ (fun hHeld => ?_)
   clear hK K
   refine norm_ (a' := ?_) ?_ ?_
   rotate_left
   ·show Act.put _ (some 11) _ = _
    simp only [Act.put, List.setIfInBounds_toArray, List.set_cons_zero, List.set_cons_succ, i64_w, i32_w]
    rfl
   refine one_ (i := 5) (N := some 14) #[true, true, true, true, true, true, false, false, false, false, false, false, false, false, false, false, false, false, false, false] rfl rfl (one_of HT_.out (by kernel_rfl)) (by decide) (fun K hK => ?_)
   refine goes_ Try.func22 (by kernel_rfl) rfl #[.agg #[.int .i64 a0_0, .int .i64 a0_1, .int .i64 a0_2], .agg #[.int .i64 a1_0, .int .i64 a1_1, .int .i64 a1_2]] (by rfl) rfl rfl (by (try simp only [List.map_toArray, List.map_cons, List.map_nil]); first | done | rfl | (simp only [List.length_drop, List.length_take]; rfl)) ?_
   with_reducible refine (corporaref10_Dominates.calls a0_0 a0_1 a0_2 a1_0 a1_1 a1_2 t312 _ A4.out).mono ?_
   rintro e w25 ⟨rfl, hb⟩
   refine ⟨_, rfl, ?_⟩
   have n0_ := Aside0.mk (blk_below (g := gb307) (o := .cells #[.int .i64 a0_0, .int .i64 a0_1, .int .i64 a0_2] 41 (0, 0)) (by (with_reducible repeat (first | refine blk_drewN ?_ _ | refine blk_drew ?_ | refine blk_alloc ?_ _)); exact BK307.out) hb)
   have n1_ := Aside0.mk (blk_below (g := gb308) (o := .cells #[.int .i64 a1_0, .int .i64 a1_1, .int .i64 a1_2] 41 (0, 0)) (by (with_reducible repeat (first | refine blk_drewN ?_ _ | refine blk_drew ?_ | refine blk_alloc ?_ _)); exact BK308.out) hb)
   have n2_ := Aside0.mk (blk_below (g := gb309) (o := .cells #[.int .i64 a0_0, .int .i64 a0_1, .int .i64 a0_2] 43 (0, 0)) (by (with_reducible repeat (first | refine blk_drewN ?_ _ | refine blk_drew ?_ | refine blk_alloc ?_ _)); exact BK309.out) hb)
   have n3_ := Aside0.mk (blk_below (g := gb310) (o := .cells #[.int .i64 a1_0, .int .i64 a1_1, .int .i64 a1_2] 43 (0, 0)) (by (with_reducible repeat (first | refine blk_drewN ?_ _ | refine blk_drew ?_ | refine blk_alloc ?_ _)); exact BK310.out) hb)
   have n4_ := Aside0.mk (below_step (by repeat (first | (with_reducible first | exact HB.out | apply below_alloc | apply pw_below_drewN | apply below_drew1 | refine below_set ?_ GE307.out | refine below_set ?_ GE308.out | refine below_set ?_ GE309.out | refine below_set ?_ GE310.out) | exact HB.out)) hb)
   clear BK307
   clear BK308
   clear BK309
   clear BK310
   clear HB
   have BK307 := n0_
   have BK308 := n1_
   have BK309 := n2_
   have BK310 := n3_
   have HB := n4_
   clear n0_ n1_ n2_ n3_ n4_
   (try clear hb)
   (try clear hb2)
   (try clear hk)
   (try clear hi)
   refine hK.out _ _ ⟨(blk_cell BK307.out 0).trans rfl, (blk_cell BK307.out 1).trans rfl, (blk_cell BK307.out 2).trans rfl, (blk_cell BK308.out 0).trans rfl, (blk_cell BK308.out 1).trans rfl, (blk_cell BK308.out 2).trans rfl, (blk_cell BK309.out 0).trans rfl, (blk_cell BK309.out 1).trans rfl, (blk_cell BK309.out 2).trans rfl, (blk_cell BK310.out 0).trans rfl, (blk_cell BK310.out 1).trans rfl, (blk_cell BK310.out 2).trans rfl⟩ (fun hHeld => ?_)
   clear hK K
   refine norm_ (a' := ?_) ?_ ?_
   rotate_left
   ·show Act.put _ (some 14) _ = _
    simp only [Act.put, List.setIfInBounds_toArray, List.set_cons_zero, List.set_cons_succ, i64_w, i32_w]
    rfl
   refine pure_ (i := 6) (N := some 15) (v := ?_) (a' := ?_) #[true, true, true, true, true, true, true, false, false, false, false, false, false, false, false, false, false, false, false, false] rfl rfl (any_of HT_.out (by kernel_rfl)) (fun _ _ _ h => h) (Or.inl ⟨by rfl, ?_⟩) ?_ ?_
   rotate_left
   ·intro w'
    go_simp
    with_reducible rfl
   rotate_left
   ·simp only [Act.put, List.setIfInBounds_toArray, List.set_cons_zero, List.set_cons_succ, i64_w, i32_w]
    rfl
   refine pure_ (i := 7) (N := some 16) (v := ?_) (a' := ?_) #[true, true, true, true, true, true, true, true, false, false, false, false, false, false, false, false, false, false, false, false] rfl rfl (any_of HT_.out (by kernel_rfl)) (fun _ _ _ h => h) (Or.inl ⟨by rfl, ?_⟩) ?_ ?_
   rotate_left
   ·intro w'
    go_simp
    with_reducible rfl
   rotate_left
   ·simp only [Act.put, List.setIfInBounds_toArray, List.set_cons_zero, List.set_cons_succ, i64_w, i32_w]
    rfl
   refine take_ (i := 8) (N := some 17) (v := ?_) (a' := ?_) #[true, true, true, true, true, true, true, true, true, false, false, false, false, false, false, false, false, false, false, false] rfl rfl (take_ofW HT_.out HW_.out (by kernel_rfl)) (fun _ _ _ h => h) (Or.inl ⟨by rfl, ?_⟩) hHeld ?_ ?_
   rotate_left
   ·rintro w' ⟨s0, s1, s2, s3, s4, s5, s6, s7, s8, s9, s10, s11⟩
    go_simp
    with_reducible rfl
   rotate_left
   ·simp only [Act.put, List.setIfInBounds_toArray, List.set_cons_zero, List.set_cons_succ, i64_w, i32_w]
    rfl
   refine take_ (i := 9) (N := some 18) (v := ?_) (a' := ?_) #[true, true, true, true, true, true, true, true, true, true, false, false, false, false, false, false, false, false, false, false] rfl rfl (take_ofW HT_.out HW_.out (by kernel_rfl)) (fun _ _ _ h => h) (Or.inl ⟨by rfl, ?_⟩) hHeld ?_ ?_
   rotate_left
   ·rintro w' ⟨s0, s1, s2, s3, s4, s5, s6, s7, s8, s9, s10, s11⟩
    go_simp
    with_reducible rfl
   rotate_left
   ·simp only [Act.put, List.setIfInBounds_toArray, List.set_cons_zero, List.set_cons_succ, i64_w, i32_w]
    rfl
   refine take_ (i := 11) (N := some 20) (v := ?_) (a' := ?_) #[true, true, true, true, true, true, true, true, true, true, false, true, false, false, false, false, false, false, false, false] rfl rfl (take_ofW HT_.out HW_.out (by kernel_rfl)) (fun _ _ _ h => h) (Or.inl ⟨by rfl, ?_⟩) hHeld ?_ ?_
   rotate_left
   ·rintro w' ⟨s0, s1, s2, s3, s4, s5, s6, s7, s8, s9, s10, s11⟩
    go_simp
    with_reducible rfl
   rotate_left
   ·simp only [Act.put, List.setIfInBounds_toArray, List.set_cons_zero, List.set_cons_succ, i64_w, i32_w]
    rfl
   refine take_ (i := 12) (N := some 21) (v := ?_) (a' := ?_) #[true, true, true, true, true, true, true, true, true, true, false, true, true, false, false, false, false, false, false, false] rfl rfl (take_ofW HT_.out HW_.out (by kernel_rfl)) (fun _ _ _ h => h) (Or.inl ⟨by rfl, ?_⟩) hHeld ?_ ?_
   rotate_left
   ·rintro w' ⟨s0, s1, s2, s3, s4, s5, s6, s7, s8, s9, s10, s11⟩
    go_simp
    with_reducible rfl
   rotate_left
   ·simp only [Act.put, List.setIfInBounds_toArray, List.set_cons_zero, List.set_cons_succ, i64_w, i32_w]
    rfl
   refine one_ (i := 10) (N := some 19) #[true, true, true, true, true, true, true, true, true, true, true, true, true, false, false, false, false, false, false, false] rfl rfl (one_of HT_.out (by kernel_rfl)) (by decide) (fun K hK => ?_)
   refine goes_ Try.func21 (by kernel_rfl) rfl #[.agg #[.int .i64 a0_0, .int .i64 a0_1, .int .i64 a0_2], .agg #[.int .i64 a1_0, .int .i64 a1_1, .int .i64 a1_2]] (by rfl) rfl rfl (by (try simp only [List.map_toArray, List.map_cons, List.map_nil]); first | done | rfl | (simp only [List.length_drop, List.length_take]; rfl)) ?_
   with_reducible refine (treelabel_Precedes.calls a0_0 a0_1 a0_2 a1_0 a1_1 a1_2 t313 _ A6.out).mono ?_
   rintro e w26 ⟨rfl, hb⟩
   refine ⟨_, rfl, ?_⟩
   have n0_ := Aside0.mk (blk_below (g := gb307) (o := .cells #[.int .i64 a0_0, .int .i64 a0_1, .int .i64 a0_2] 41 (0, 0)) (by (with_reducible repeat (first | refine blk_drewN ?_ _ | refine blk_drew ?_ | refine blk_alloc ?_ _)); exact BK307.out) hb)
   have n1_ := Aside0.mk (blk_below (g := gb308) (o := .cells #[.int .i64 a1_0, .int .i64 a1_1, .int .i64 a1_2] 41 (0, 0)) (by (with_reducible repeat (first | refine blk_drewN ?_ _ | refine blk_drew ?_ | refine blk_alloc ?_ _)); exact BK308.out) hb)
   have n2_ := Aside0.mk (blk_below (g := gb309) (o := .cells #[.int .i64 a0_0, .int .i64 a0_1, .int .i64 a0_2] 43 (0, 0)) (by (with_reducible repeat (first | refine blk_drewN ?_ _ | refine blk_drew ?_ | refine blk_alloc ?_ _)); exact BK309.out) hb)
   have n3_ := Aside0.mk (blk_below (g := gb310) (o := .cells #[.int .i64 a1_0, .int .i64 a1_1, .int .i64 a1_2] 43 (0, 0)) (by (with_reducible repeat (first | refine blk_drewN ?_ _ | refine blk_drew ?_ | refine blk_alloc ?_ _)); exact BK310.out) hb)
   have n4_ := Aside0.mk (below_step (by repeat (first | (with_reducible first | exact HB.out | apply below_alloc | apply pw_below_drewN | apply below_drew1 | refine below_set ?_ GE307.out | refine below_set ?_ GE308.out | refine below_set ?_ GE309.out | refine below_set ?_ GE310.out) | exact HB.out)) hb)
   clear BK307
   clear BK308
   clear BK309
   clear BK310
   clear HB
   have BK307 := n0_
   have BK308 := n1_
   have BK309 := n2_
   have BK310 := n3_
   have HB := n4_
   clear n0_ n1_ n2_ n3_ n4_
   (try clear hb)
   (try clear hb2)
   (try clear hk)
   (try clear hi)
   refine hK.out _ _ ⟨(blk_cell BK307.out 0).trans rfl, (blk_cell BK307.out 1).trans rfl, (blk_cell BK307.out 2).trans rfl, (blk_cell BK308.out 0).trans rfl, (blk_cell BK308.out 1).trans rfl, (blk_cell BK308.out 2).trans rfl, (blk_cell BK309.out 0).trans rfl, (blk_cell BK309.out 1).trans rfl, (blk_cell BK309.out 2).trans rfl, (blk_cell BK310.out 0).trans rfl, (blk_cell BK310.out 1).trans rfl, (blk_cell BK310.out 2).trans rfl⟩ (fun hHeld => ?_)
   clear hK K
   refine norm_ (a' := ?_) ?_ ?_
   rotate_left
   ·show Act.put _ (some 19) _ = _
    simp only [Act.put, List.setIfInBounds_toArray, List.set_cons_zero, List.set_cons_succ, i64_w, i32_w]
    rfl
   refine one_ (i := 13) (N := some 22) #[true, true, true, true, true, true, true, true, true, true, true, true, true, true, false, false, false, false, false, false] rfl rfl (one_of HT_.out (by kernel_rfl)) (by decide) (fun K hK => ?_)
   refine goes_ Try.func23 (by kernel_rfl) rfl #[.agg #[.int .i64 a0_0, .int .i64 a0_1, .int .i64 a0_2], .agg #[.int .i64 a1_0, .int .i64 a1_1, .int .i64 a1_2]] (by rfl) rfl rfl (by (try simp only [List.map_toArray, List.map_cons, List.map_nil]); first | done | rfl | (simp only [List.length_drop, List.length_take]; rfl)) ?_
   with_reducible refine (corporaref10_Precedes.calls a0_0 a0_1 a0_2 a1_0 a1_1 a1_2 t314 _ A7.out).mono ?_
   rintro e w27 ⟨rfl, hb⟩
   refine ⟨_, rfl, ?_⟩
   have n0_ := Aside0.mk (blk_below (g := gb307) (o := .cells #[.int .i64 a0_0, .int .i64 a0_1, .int .i64 a0_2] 41 (0, 0)) (by (with_reducible repeat (first | refine blk_drewN ?_ _ | refine blk_drew ?_ | refine blk_alloc ?_ _)); exact BK307.out) hb)
   have n1_ := Aside0.mk (blk_below (g := gb308) (o := .cells #[.int .i64 a1_0, .int .i64 a1_1, .int .i64 a1_2] 41 (0, 0)) (by (with_reducible repeat (first | refine blk_drewN ?_ _ | refine blk_drew ?_ | refine blk_alloc ?_ _)); exact BK308.out) hb)
   have n2_ := Aside0.mk (blk_below (g := gb309) (o := .cells #[.int .i64 a0_0, .int .i64 a0_1, .int .i64 a0_2] 43 (0, 0)) (by (with_reducible repeat (first | refine blk_drewN ?_ _ | refine blk_drew ?_ | refine blk_alloc ?_ _)); exact BK309.out) hb)
   have n3_ := Aside0.mk (blk_below (g := gb310) (o := .cells #[.int .i64 a1_0, .int .i64 a1_1, .int .i64 a1_2] 43 (0, 0)) (by (with_reducible repeat (first | refine blk_drewN ?_ _ | refine blk_drew ?_ | refine blk_alloc ?_ _)); exact BK310.out) hb)
   have n4_ := Aside0.mk (below_step (by repeat (first | (with_reducible first | exact HB.out | apply below_alloc | apply pw_below_drewN | apply below_drew1 | refine below_set ?_ GE307.out | refine below_set ?_ GE308.out | refine below_set ?_ GE309.out | refine below_set ?_ GE310.out) | exact HB.out)) hb)
   clear BK307
   clear BK308
   clear BK309
   clear BK310
   clear HB
   have BK307 := n0_
   have BK308 := n1_
   have BK309 := n2_
   have BK310 := n3_
   have HB := n4_
   clear n0_ n1_ n2_ n3_ n4_
   (try clear hb)
   (try clear hb2)
   (try clear hk)
   (try clear hi)
   refine hK.out _ _ ⟨(blk_cell BK307.out 0).trans rfl, (blk_cell BK307.out 1).trans rfl, (blk_cell BK307.out 2).trans rfl, (blk_cell BK308.out 0).trans rfl, (blk_cell BK308.out 1).trans rfl, (blk_cell BK308.out 2).trans rfl, (blk_cell BK309.out 0).trans rfl, (blk_cell BK309.out 1).trans rfl, (blk_cell BK309.out 2).trans rfl, (blk_cell BK310.out 0).trans rfl, (blk_cell BK310.out 1).trans rfl, (blk_cell BK310.out 2).trans rfl⟩ (fun hHeld => ?_)
   clear hK K
   refine norm_ (a' := ?_) ?_ ?_
   rotate_left
   ·show Act.put _ (some 22) _ = _
    simp only [Act.put, List.setIfInBounds_toArray, List.set_cons_zero, List.set_cons_succ, i64_w, i32_w]
    rfl
   refine pure_ (i := 14) (N := some 23) (v := ?_) (a' := ?_) #[true, true, true, true, true, true, true, true, true, true, true, true, true, true, true, false, false, false, false, false] rfl rfl (any_of HT_.out (by kernel_rfl)) (fun _ _ _ h => h) (Or.inl ⟨by rfl, ?_⟩) ?_ ?_
   rotate_left
   ·intro w'
    go_simp
    with_reducible rfl
   rotate_left
   ·simp only [Act.put, List.setIfInBounds_toArray, List.set_cons_zero, List.set_cons_succ, i64_w, i32_w]
    rfl
   refine pure_ (i := 15) (N := some 24) (v := ?_) (a' := ?_) #[true, true, true, true, true, true, true, true, true, true, true, true, true, true, true, true, false, false, false, false] rfl rfl (any_of HT_.out (by kernel_rfl)) (fun _ _ _ h => h) (Or.inl ⟨by rfl, ?_⟩) ?_ ?_
   rotate_left
   ·intro w'
    go_simp
    with_reducible rfl
   rotate_left
   ·simp only [Act.put, List.setIfInBounds_toArray, List.set_cons_zero, List.set_cons_succ, i64_w, i32_w]
    rfl
   refine pure_ (i := 16) (N := some 25) (v := ?_) (a' := ?_) #[true, true, true, true, true, true, true, true, true, true, true, true, true, true, true, true, true, false, false, false] rfl rfl (any_of HT_.out (by kernel_rfl)) (fun _ _ _ h => h) (Or.inl ⟨by rfl, ?_⟩) ?_ ?_
   rotate_left
   ·intro w'
    go_simp
    with_reducible rfl
   rotate_left
   ·simp only [Act.put, List.setIfInBounds_toArray, List.set_cons_zero, List.set_cons_succ, i64_w, i32_w]
    rfl
   refine one_ (i := 17) (N := some 26) #[true, true, true, true, true, true, true, true, true, true, true, true, true, true, true, true, true, true, false, false] rfl rfl (one_of HT_.out (by kernel_rfl)) (by decide) (fun K hK => ?_)
   refine goes_ Try.func14 (by kernel_rfl) rfl #[] (by rfl) rfl rfl (by (try simp only [List.map_toArray, List.map_cons, List.map_nil]); first | done | rfl | (simp only [List.length_drop, List.length_take]; rfl)) ?_
   with_reducible refine (corporalaw10_awake.calls k  t315 _ A9.out).mono ?_
   rintro e w28 ⟨rfl, hb⟩
   refine ⟨_, rfl, ?_⟩
   have n0_ := Aside0.mk (blk_below (g := gb307) (o := .cells #[.int .i64 a0_0, .int .i64 a0_1, .int .i64 a0_2] 41 (0, 0)) (by (with_reducible repeat (first | refine blk_drewN ?_ _ | refine blk_drew ?_ | refine blk_alloc ?_ _)); exact BK307.out) hb)
   have n1_ := Aside0.mk (blk_below (g := gb308) (o := .cells #[.int .i64 a1_0, .int .i64 a1_1, .int .i64 a1_2] 41 (0, 0)) (by (with_reducible repeat (first | refine blk_drewN ?_ _ | refine blk_drew ?_ | refine blk_alloc ?_ _)); exact BK308.out) hb)
   have n2_ := Aside0.mk (blk_below (g := gb309) (o := .cells #[.int .i64 a0_0, .int .i64 a0_1, .int .i64 a0_2] 43 (0, 0)) (by (with_reducible repeat (first | refine blk_drewN ?_ _ | refine blk_drew ?_ | refine blk_alloc ?_ _)); exact BK309.out) hb)
   have n3_ := Aside0.mk (blk_below (g := gb310) (o := .cells #[.int .i64 a1_0, .int .i64 a1_1, .int .i64 a1_2] 43 (0, 0)) (by (with_reducible repeat (first | refine blk_drewN ?_ _ | refine blk_drew ?_ | refine blk_alloc ?_ _)); exact BK310.out) hb)
   have n4_ := Aside0.mk (below_step (by repeat (first | (with_reducible first | exact HB.out | apply below_alloc | apply pw_below_drewN | apply below_drew1 | refine below_set ?_ GE307.out | refine below_set ?_ GE308.out | refine below_set ?_ GE309.out | refine below_set ?_ GE310.out) | exact HB.out)) hb)
   clear BK307
   clear BK308
   clear BK309
   clear BK310
   clear HB
   have BK307 := n0_
   have BK308 := n1_
   have BK309 := n2_
   have BK310 := n3_
   have HB := n4_
   clear n0_ n1_ n2_ n3_ n4_
   (try clear hb)
   (try clear hb2)
   (try clear hk)
   (try clear hi)
   refine hK.out _ _ ⟨(blk_cell BK307.out 0).trans rfl, (blk_cell BK307.out 1).trans rfl, (blk_cell BK307.out 2).trans rfl, (blk_cell BK308.out 0).trans rfl, (blk_cell BK308.out 1).trans rfl, (blk_cell BK308.out 2).trans rfl, (blk_cell BK309.out 0).trans rfl, (blk_cell BK309.out 1).trans rfl, (blk_cell BK309.out 2).trans rfl, (blk_cell BK310.out 0).trans rfl, (blk_cell BK310.out 1).trans rfl, (blk_cell BK310.out 2).trans rfl⟩ (fun hHeld => ?_)
   clear hK K
   refine norm_ (a' := ?_) ?_ ?_
   rotate_left
   ·show Act.put _ (some 26) _ = _
    simp only [Act.put, List.setIfInBounds_toArray, List.set_cons_zero, List.set_cons_succ, i64_w, i32_w]
    rfl
   refine pure_ (i := 18) (N := some 27) (v := ?_) (a' := ?_) #[true, true, true, true, true, true, true, true, true, true, true, true, true, true, true, true, true, true, true, false] rfl rfl (any_of HT_.out (by kernel_rfl)) (fun _ _ _ h => h) (Or.inl ⟨by rfl, ?_⟩) ?_ ?_
   rotate_left
   ·intro w'
    go_simp
    with_reducible rfl
   rotate_left
   ·simp only [Act.put, List.setIfInBounds_toArray, List.set_cons_zero, List.set_cons_succ, i64_w, i32_w]
    rfl
   refine pure_ (i := 19) (N := some 4) (v := ?_) (a' := ?_) #[true, true, true, true, true, true, true, true, true, true, true, true, true, true, true, true, true, true, true, true] rfl rfl (any_of HT_.out (by kernel_rfl)) (fun _ _ _ h => h) (Or.inl ⟨by rfl, ?_⟩) ?_ ?_
   rotate_left
   ·intro w'
    go_simp
    with_reducible rfl
   rotate_left
   ·simp only [Act.put, List.setIfInBounds_toArray, List.set_cons_zero, List.set_cons_succ, i64_w, i32_w]
    rfl
   refine done_ (done_of HT_.out (by kernel_rfl)) ?_
   try go_wp2
   go_ret
   exact ⟨by first | rfl | (simp [errW_none, errW_some] <;> rfl) | (simp [*, errW_none, errW_some] <;> rfl), by repeat (first | (with_reducible first | exact HB.out | apply below_alloc | apply pw_below_drewN | apply below_drew1 | refine below_set ?_ GE307.out | refine below_set ?_ GE308.out | refine below_set ?_ GE309.out | refine below_set ?_ GE310.out) | exact HB.out)⟩
  ·rw [if_neg c8] at H
   have c8b0 : (t313 == t314) = false := by simpa using c8
   (try (have c8b1 : decide (t313 = t314) = false := by simpa using c8))
   (try (have c8b2 : (t313 == t314) = false := by simpa using c8))
   (try (have c8b3 : ¬ (t313 = t314) := by simpa using c8))
   clear c8
   obtain rfl := Option.some.inj H
   go_enter Try.func7, Try.ntmps7
   try go_wp2_with (first | ((with_reducible refine gate_dst (N := 2) rfl ?_); refine box_event ?hg (N := 2) ?hd (cs := #[.int .i64 a0_0, .int .i64 a0_1, .int .i64 a0_2]) (t := 41) ?hr ?_; (case hd => rfl); (case hg => rfl); (case hr => first | (go_simp; done) | (go_simp; rfl)); intro gb307 hg w29 hbox hb; have n0_ := Aside0.mk (below_step (by repeat (first | (with_reducible first | exact HB.out | apply below_alloc | apply pw_below_drewN | apply below_drew1) | exact HB.out)) hb); have n1_ := Aside0.mk (hbox); have n2_ := Aside0.mk ((by rw [hg]; exact (below_size (by repeat (first | (with_reducible first | exact HB.out | apply below_alloc | apply pw_below_drewN | apply below_drew1) | exact HB.out))) : w.heap.size ≤ gb307)); have n3_ := Aside0.mk ((by rw [hg]; exact (below_size (by repeat (first | (with_reducible first | exact HB.out | apply below_alloc | apply pw_below_drewN | apply below_drew1) | exact HB.out))) : w.heap.size ≤ gb307)); clear HB; have HB := n0_; have BK307 := n1_; have GW307 := n2_; have GE307 := n3_; clear n0_ n1_ n2_ n3_; clear hb hbox hg) | ((with_reducible refine gate_dst (N := 3) rfl ?_); refine box_event ?hg (N := 3) ?hd (cs := #[.int .i64 a1_0, .int .i64 a1_1, .int .i64 a1_2]) (t := 41) ?hr ?_; (case hd => rfl); (case hg => rfl); (case hr => first | (go_simp; done) | (go_simp; rfl)); intro gb308 hg w30 hbox hb; have n0_ := Aside0.mk (blk_below (g := gb307) (o := .cells #[.int .i64 a0_0, .int .i64 a0_1, .int .i64 a0_2] 41 (0, 0)) (by (with_reducible repeat (first | refine blk_drewN ?_ _ | refine blk_drew ?_ | refine blk_alloc ?_ _)); exact BK307.out) hb); have n1_ := Aside0.mk (below_step (by repeat (first | (with_reducible first | exact HB.out | apply below_alloc | apply pw_below_drewN | apply below_drew1 | refine below_set ?_ GE307.out) | exact HB.out)) hb); have n2_ := Aside0.mk (hbox); have n3_ := Aside0.mk ((by rw [hg]; exact (below_size (by repeat (first | (with_reducible first | exact HB.out | apply below_alloc | apply pw_below_drewN | apply below_drew1 | refine below_set ?_ GE307.out) | exact HB.out))) : w.heap.size ≤ gb308)); have n4_ := Aside0.mk ((by rw [hg]; exact (below_size (by repeat (first | (with_reducible first | exact HB.out | apply below_alloc | apply pw_below_drewN | apply below_drew1 | refine below_set ?_ GE307.out) | exact HB.out))) : w.heap.size ≤ gb308)); have n5_ := Aside0.mk ((by rw [hg]; exact Nat.ne_of_lt (blk_lt (g := gb307) (o := .cells #[.int .i64 a0_0, .int .i64 a0_1, .int .i64 a0_2] 41 (0, 0)) (by (with_reducible repeat (first | refine blk_drewN ?_ _ | refine blk_drew ?_ | refine blk_alloc ?_ _)); exact BK307.out)) : gb307 ≠ gb308)); have n6_ := Aside0.mk ((by rw [hg]; exact Nat.ne_of_gt (blk_lt (g := gb307) (o := .cells #[.int .i64 a0_0, .int .i64 a0_1, .int .i64 a0_2] 41 (0, 0)) (by (with_reducible repeat (first | refine blk_drewN ?_ _ | refine blk_drew ?_ | refine blk_alloc ?_ _)); exact BK307.out)) : gb308 ≠ gb307)); clear BK307; clear HB; have BK307 := n0_; have HB := n1_; have BK308 := n2_; have GW308 := n3_; have GE308 := n4_; have NB307_308 := n5_; have NB308_307 := n6_; clear n0_ n1_ n2_ n3_ n4_ n5_ n6_; clear hb hbox hg))
   have n0_ := Aside0.mk (blk_drew BK307.out)
   have n1_ := Aside0.mk (blk_drew BK308.out)
   have n2_ := Aside0.mk (below_drew1 HB.out)
   clear BK307
   clear BK308
   clear HB
   have BK307 := n0_
   have BK308 := n1_
   have HB := n2_
   clear n0_ n1_ n2_
   refine start_ (n := 6) (S := fun w' => w'.cell? ⟨gb307, 0, none⟩ = some (.int .i64 a0_0) ∧ w'.cell? ⟨gb307, 1, none⟩ = some (.int .i64 a0_1) ∧ w'.cell? ⟨gb307, 2, none⟩ = some (.int .i64 a0_2) ∧ w'.cell? ⟨gb308, 0, none⟩ = some (.int .i64 a1_0) ∧ w'.cell? ⟨gb308, 1, none⟩ = some (.int .i64 a1_1) ∧ w'.cell? ⟨gb308, 2, none⟩ = some (.int .i64 a1_2)) (ds := []) #[false, false, false, false, false, false] (by kernel_rfl) rfl rfl ⟨(blk_cell BK307.out 0).trans rfl, (blk_cell BK307.out 1).trans rfl, (blk_cell BK307.out 2).trans rfl, (blk_cell BK308.out 0).trans rfl, (blk_cell BK308.out 1).trans rfl, (blk_cell BK308.out 2).trans rfl⟩ (fun hHeld => ?_)
   generalize w30.drew = w31 at BK307 BK308 HB hHeld ⊢
   refine take_ (i := 0) (N := some 7) (v := ?_) (a' := ?_) #[true, false, false, false, false, false] rfl rfl (by kernel_rfl) (fun _ _ _ h => h) (Or.inl ⟨by rfl, ?_⟩) hHeld ?_ ?_
   rotate_left
   ·rintro w' ⟨s0, s1, s2, s3, s4, s5⟩
    go_simp
    with_reducible rfl
   rotate_left
   ·simp only [Act.put, List.setIfInBounds_toArray, List.set_cons_zero, List.set_cons_succ, i64_w, i32_w]
    rfl
   refine take_ (i := 1) (N := some 8) (v := ?_) (a' := ?_) #[true, true, false, false, false, false] rfl rfl (by kernel_rfl) (fun _ _ _ h => h) (Or.inl ⟨by rfl, ?_⟩) hHeld ?_ ?_
   rotate_left
   ·rintro w' ⟨s0, s1, s2, s3, s4, s5⟩
    go_simp
    with_reducible rfl
   rotate_left
   ·simp only [Act.put, List.setIfInBounds_toArray, List.set_cons_zero, List.set_cons_succ, i64_w, i32_w]
    rfl
   refine join_ (σ := Nat × Nat) 2 #[true, true, true, true, false, false] (fun s_ => [(5, .pointer (some ⟨s_.1, 0, none⟩)), (6, .pointer (some ⟨s_.2, 0, none⟩))]) (fun s_ w' => (w'.cell? ⟨gb307, 0, none⟩ = some (.int .i64 a0_0) ∧ w'.cell? ⟨gb307, 1, none⟩ = some (.int .i64 a0_1) ∧ w'.cell? ⟨gb307, 2, none⟩ = some (.int .i64 a0_2) ∧ w'.cell? ⟨gb308, 0, none⟩ = some (.int .i64 a1_0) ∧ w'.cell? ⟨gb308, 1, none⟩ = some (.int .i64 a1_1) ∧ w'.cell? ⟨gb308, 2, none⟩ = some (.int .i64 a1_2)) ∧ (w'.heap[gb307]? = some (.cells #[.int .i64 a0_0, .int .i64 a0_1, .int .i64 a0_2] 41 (0, 0))) ∧ (w'.heap[gb308]? = some (.cells #[.int .i64 a1_0, .int .i64 a1_1, .int .i64 a1_2] 41 (0, 0))) ∧ (w'.heap[s_.1]? = some (.cells #[.int .i64 0, .int .i64 0, .int .i64 0] 43 (0, 0))) ∧ (w'.heap[s_.2]? = some (.cells #[.int .i64 0, .int .i64 0, .int .i64 0] 43 (0, 0))) ∧ (w.heap.size ≤ s_.1) ∧ (w.heap.size ≤ s_.1) ∧ (gb307 ≠ s_.1) ∧ (s_.1 ≠ gb307) ∧ (gb308 ≠ s_.1) ∧ (s_.1 ≠ gb308) ∧ (s_.2 ≠ s_.1) ∧ (s_.1 ≠ s_.2) ∧ (w.heap.size ≤ s_.2) ∧ (w.heap.size ≤ s_.2) ∧ (gb307 ≠ s_.2) ∧ (s_.2 ≠ gb307) ∧ (gb308 ≠ s_.2) ∧ (s_.2 ≠ gb308) ∧ (Below w.heap.size w w')) ?_ ?_
   rotate_left
   ·intro hCont
    refine two_ (i := 2) (j := 3) (Ni := some 5) (Nj := some 6) #[true, true, true, false, false, false] #[true, true, false, true, false, false] rfl rfl rfl rfl (by kernel_rfl) (by decide) (by decide) (fun K hK => ?_) (fun K hK => ?_)
    ·skip
     refine box_step ?hg (N := 5) ?hd (cs := #[.int .i64 0, .int .i64 0, .int .i64 0]) (t := 43) ?hr ?_; (case hd => rfl); (case hg => rfl); (case hr => first | (go_simp; done) | (go_simp; rfl))
     intro gb309 hg w32 hbox hb
     have n0_ := Aside0.mk (blk_below (g := gb307) (o := .cells #[.int .i64 a0_0, .int .i64 a0_1, .int .i64 a0_2] 41 (0, 0)) (by (with_reducible repeat (first | refine blk_drewN ?_ _ | refine blk_drew ?_ | refine blk_alloc ?_ _)); exact BK307.out) hb)
     have n1_ := Aside0.mk (blk_below (g := gb308) (o := .cells #[.int .i64 a1_0, .int .i64 a1_1, .int .i64 a1_2] 41 (0, 0)) (by (with_reducible repeat (first | refine blk_drewN ?_ _ | refine blk_drew ?_ | refine blk_alloc ?_ _)); exact BK308.out) hb)
     have n2_ := Aside0.mk (below_step (by repeat (first | (with_reducible first | exact HB.out | apply below_alloc | apply pw_below_drewN | apply below_drew1 | refine below_set ?_ GE307.out | refine below_set ?_ GE308.out) | exact HB.out)) hb)
     have n3_ := Aside0.mk (hbox)
     have n4_ := Aside0.mk ((by rw [hg]; exact (below_size (by repeat (first | (with_reducible first | exact HB.out | apply below_alloc | apply pw_below_drewN | apply below_drew1 | refine below_set ?_ GE307.out | refine below_set ?_ GE308.out) | exact HB.out))) : w.heap.size ≤ gb309))
     have n5_ := Aside0.mk ((by rw [hg]; exact (below_size (by repeat (first | (with_reducible first | exact HB.out | apply below_alloc | apply pw_below_drewN | apply below_drew1 | refine below_set ?_ GE307.out | refine below_set ?_ GE308.out) | exact HB.out))) : w.heap.size ≤ gb309))
     have n6_ := Aside0.mk ((by rw [hg]; exact Nat.ne_of_lt (blk_lt (g := gb307) (o := .cells #[.int .i64 a0_0, .int .i64 a0_1, .int .i64 a0_2] 41 (0, 0)) (by (with_reducible repeat (first | refine blk_drewN ?_ _ | refine blk_drew ?_ | refine blk_alloc ?_ _)); exact BK307.out)) : gb307 ≠ gb309))
     have n7_ := Aside0.mk ((by rw [hg]; exact Nat.ne_of_gt (blk_lt (g := gb307) (o := .cells #[.int .i64 a0_0, .int .i64 a0_1, .int .i64 a0_2] 41 (0, 0)) (by (with_reducible repeat (first | refine blk_drewN ?_ _ | refine blk_drew ?_ | refine blk_alloc ?_ _)); exact BK307.out)) : gb309 ≠ gb307))
     have n8_ := Aside0.mk ((by rw [hg]; exact Nat.ne_of_lt (blk_lt (g := gb308) (o := .cells #[.int .i64 a1_0, .int .i64 a1_1, .int .i64 a1_2] 41 (0, 0)) (by (with_reducible repeat (first | refine blk_drewN ?_ _ | refine blk_drew ?_ | refine blk_alloc ?_ _)); exact BK308.out)) : gb308 ≠ gb309))
     have n9_ := Aside0.mk ((by rw [hg]; exact Nat.ne_of_gt (blk_lt (g := gb308) (o := .cells #[.int .i64 a1_0, .int .i64 a1_1, .int .i64 a1_2] 41 (0, 0)) (by (with_reducible repeat (first | refine blk_drewN ?_ _ | refine blk_drew ?_ | refine blk_alloc ?_ _)); exact BK308.out)) : gb309 ≠ gb308))
     clear BK307
     clear BK308
     clear HB
     have BK307 := n0_
     have BK308 := n1_
     have HB := n2_
     have BK309 := n3_
     have GW309 := n4_
     have GE309 := n5_
     have NB307_309 := n6_
     have NB309_307 := n7_
     have NB308_309 := n8_
     have NB309_308 := n9_
     clear n0_ n1_ n2_ n3_ n4_ n5_ n6_ n7_ n8_ n9_
     clear hb hbox hg
     refine hK.out _ _ ⟨(blk_cell BK307.out 0).trans rfl, (blk_cell BK307.out 1).trans rfl, (blk_cell BK307.out 2).trans rfl, (blk_cell BK308.out 0).trans rfl, (blk_cell BK308.out 1).trans rfl, (blk_cell BK308.out 2).trans rfl⟩ (fun hHeld => ?_)
     clear hK K
     refine norm_ (a' := ?_) ?_ ?_
     rotate_left
     ·show Act.put _ (some 5) _ = _
      simp only [Act.put, List.setIfInBounds_toArray, List.set_cons_zero, List.set_cons_succ, i64_w, i32_w]
      rfl
     refine one_ (i := 3) (N := some 6) #[true, true, true, true, false, false] rfl rfl (by kernel_rfl) (by decide) (fun K hK => ?_)
     refine box_step ?hg (N := 6) ?hd (cs := #[.int .i64 0, .int .i64 0, .int .i64 0]) (t := 43) ?hr ?_; (case hd => rfl); (case hg => rfl); (case hr => first | (go_simp; done) | (go_simp; rfl))
     intro gb310 hg w33 hbox hb
     have n0_ := Aside0.mk (blk_below (g := gb307) (o := .cells #[.int .i64 a0_0, .int .i64 a0_1, .int .i64 a0_2] 41 (0, 0)) (by (with_reducible repeat (first | refine blk_drewN ?_ _ | refine blk_drew ?_ | refine blk_alloc ?_ _)); exact BK307.out) hb)
     have n1_ := Aside0.mk (blk_below (g := gb308) (o := .cells #[.int .i64 a1_0, .int .i64 a1_1, .int .i64 a1_2] 41 (0, 0)) (by (with_reducible repeat (first | refine blk_drewN ?_ _ | refine blk_drew ?_ | refine blk_alloc ?_ _)); exact BK308.out) hb)
     have n2_ := Aside0.mk (blk_below (g := gb309) (o := .cells #[.int .i64 0, .int .i64 0, .int .i64 0] 43 (0, 0)) (by (with_reducible repeat (first | refine blk_drewN ?_ _ | refine blk_drew ?_ | refine blk_alloc ?_ _)); exact BK309.out) hb)
     have n3_ := Aside0.mk (below_step (by repeat (first | (with_reducible first | exact HB.out | apply below_alloc | apply pw_below_drewN | apply below_drew1 | refine below_set ?_ GE307.out | refine below_set ?_ GE308.out | refine below_set ?_ GE309.out) | exact HB.out)) hb)
     have n4_ := Aside0.mk (hbox)
     have n5_ := Aside0.mk ((by rw [hg]; exact (below_size (by repeat (first | (with_reducible first | exact HB.out | apply below_alloc | apply pw_below_drewN | apply below_drew1 | refine below_set ?_ GE307.out | refine below_set ?_ GE308.out | refine below_set ?_ GE309.out) | exact HB.out))) : w.heap.size ≤ gb310))
     have n6_ := Aside0.mk ((by rw [hg]; exact (below_size (by repeat (first | (with_reducible first | exact HB.out | apply below_alloc | apply pw_below_drewN | apply below_drew1 | refine below_set ?_ GE307.out | refine below_set ?_ GE308.out | refine below_set ?_ GE309.out) | exact HB.out))) : w.heap.size ≤ gb310))
     have n7_ := Aside0.mk ((by rw [hg]; exact Nat.ne_of_lt (blk_lt (g := gb307) (o := .cells #[.int .i64 a0_0, .int .i64 a0_1, .int .i64 a0_2] 41 (0, 0)) (by (with_reducible repeat (first | refine blk_drewN ?_ _ | refine blk_drew ?_ | refine blk_alloc ?_ _)); exact BK307.out)) : gb307 ≠ gb310))
     have n8_ := Aside0.mk ((by rw [hg]; exact Nat.ne_of_gt (blk_lt (g := gb307) (o := .cells #[.int .i64 a0_0, .int .i64 a0_1, .int .i64 a0_2] 41 (0, 0)) (by (with_reducible repeat (first | refine blk_drewN ?_ _ | refine blk_drew ?_ | refine blk_alloc ?_ _)); exact BK307.out)) : gb310 ≠ gb307))
     have n9_ := Aside0.mk ((by rw [hg]; exact Nat.ne_of_lt (blk_lt (g := gb308) (o := .cells #[.int .i64 a1_0, .int .i64 a1_1, .int .i64 a1_2] 41 (0, 0)) (by (with_reducible repeat (first | refine blk_drewN ?_ _ | refine blk_drew ?_ | refine blk_alloc ?_ _)); exact BK308.out)) : gb308 ≠ gb310))
     have n10_ := Aside0.mk ((by rw [hg]; exact Nat.ne_of_gt (blk_lt (g := gb308) (o := .cells #[.int .i64 a1_0, .int .i64 a1_1, .int .i64 a1_2] 41 (0, 0)) (by (with_reducible repeat (first | refine blk_drewN ?_ _ | refine blk_drew ?_ | refine blk_alloc ?_ _)); exact BK308.out)) : gb310 ≠ gb308))
     have n11_ := Aside0.mk ((by rw [hg]; exact Nat.ne_of_lt (blk_lt (g := gb309) (o := .cells #[.int .i64 0, .int .i64 0, .int .i64 0] 43 (0, 0)) (by (with_reducible repeat (first | refine blk_drewN ?_ _ | refine blk_drew ?_ | refine blk_alloc ?_ _)); exact BK309.out)) : gb309 ≠ gb310))
     have n12_ := Aside0.mk ((by rw [hg]; exact Nat.ne_of_gt (blk_lt (g := gb309) (o := .cells #[.int .i64 0, .int .i64 0, .int .i64 0] 43 (0, 0)) (by (with_reducible repeat (first | refine blk_drewN ?_ _ | refine blk_drew ?_ | refine blk_alloc ?_ _)); exact BK309.out)) : gb310 ≠ gb309))
     clear BK307
     clear BK308
     clear BK309
     clear HB
     have BK307 := n0_
     have BK308 := n1_
     have BK309 := n2_
     have HB := n3_
     have BK310 := n4_
     have GW310 := n5_
     have GE310 := n6_
     have NB307_310 := n7_
     have NB310_307 := n8_
     have NB308_310 := n9_
     have NB310_308 := n10_
     have NB309_310 := n11_
     have NB310_309 := n12_
     clear n0_ n1_ n2_ n3_ n4_ n5_ n6_ n7_ n8_ n9_ n10_ n11_ n12_
     clear hb hbox hg
     refine hK.out _ _ ⟨(blk_cell BK307.out 0).trans rfl, (blk_cell BK307.out 1).trans rfl, (blk_cell BK307.out 2).trans rfl, (blk_cell BK308.out 0).trans rfl, (blk_cell BK308.out 1).trans rfl, (blk_cell BK308.out 2).trans rfl⟩ (fun hHeld => ?_)
     clear hK K
     refine norm_ (a' := ?_) ?_ ?_
     rotate_left
     ·show Act.put _ (some 6) _ = _
      simp only [Act.put, List.setIfInBounds_toArray, List.set_cons_zero, List.set_cons_succ, i64_w, i32_w]
      rfl
     exact norm_ (by simp only [putAll, Act.put, List.setIfInBounds_toArray, List.set_cons_zero, List.set_cons_succ]) (hCont (gb309, gb310) _ ⟨hHeld, (by (with_reducible repeat (first | refine blk_drewN ?_ _ | refine blk_drew ?_ | refine blk_alloc ?_ _)); exact BK307.out), (by (with_reducible repeat (first | refine blk_drewN ?_ _ | refine blk_drew ?_ | refine blk_alloc ?_ _)); exact BK308.out), (by (with_reducible repeat (first | refine blk_drewN ?_ _ | refine blk_drew ?_ | refine blk_alloc ?_ _)); exact BK309.out), (by (with_reducible repeat (first | refine blk_drewN ?_ _ | refine blk_drew ?_ | refine blk_alloc ?_ _)); exact BK310.out), GW309.out, GE309.out, NB307_309.out, NB309_307.out, NB308_309.out, NB309_308.out, NB310_309.out, NB309_310.out, GW310.out, GE310.out, NB307_310.out, NB310_307.out, NB308_310.out, NB310_308.out, (by repeat (first | (with_reducible first | exact HB.out | apply below_alloc | apply pw_below_drewN | apply below_drew1 | refine below_set ?_ GE307.out | refine below_set ?_ GE308.out | refine below_set ?_ GE309.out | refine below_set ?_ GE310.out) | exact HB.out))⟩)
    ·skip
     refine box_step ?hg (N := 6) ?hd (cs := #[.int .i64 0, .int .i64 0, .int .i64 0]) (t := 43) ?hr ?_; (case hd => rfl); (case hg => rfl); (case hr => first | (go_simp; done) | (go_simp; rfl))
     intro gb310 hg w32 hbox hb
     have n0_ := Aside0.mk (blk_below (g := gb307) (o := .cells #[.int .i64 a0_0, .int .i64 a0_1, .int .i64 a0_2] 41 (0, 0)) (by (with_reducible repeat (first | refine blk_drewN ?_ _ | refine blk_drew ?_ | refine blk_alloc ?_ _)); exact BK307.out) hb)
     have n1_ := Aside0.mk (blk_below (g := gb308) (o := .cells #[.int .i64 a1_0, .int .i64 a1_1, .int .i64 a1_2] 41 (0, 0)) (by (with_reducible repeat (first | refine blk_drewN ?_ _ | refine blk_drew ?_ | refine blk_alloc ?_ _)); exact BK308.out) hb)
     have n2_ := Aside0.mk (below_step (by repeat (first | (with_reducible first | exact HB.out | apply below_alloc | apply pw_below_drewN | apply below_drew1 | refine below_set ?_ GE307.out | refine below_set ?_ GE308.out) | exact HB.out)) hb)
     have n3_ := Aside0.mk (hbox)
     have n4_ := Aside0.mk ((by rw [hg]; exact (below_size (by repeat (first | (with_reducible first | exact HB.out | apply below_alloc | apply pw_below_drewN | apply below_drew1 | refine below_set ?_ GE307.out | refine below_set ?_ GE308.out) | exact HB.out))) : w.heap.size ≤ gb310))
     have n5_ := Aside0.mk ((by rw [hg]; exact (below_size (by repeat (first | (with_reducible first | exact HB.out | apply below_alloc | apply pw_below_drewN | apply below_drew1 | refine below_set ?_ GE307.out | refine below_set ?_ GE308.out) | exact HB.out))) : w.heap.size ≤ gb310))
     have n6_ := Aside0.mk ((by rw [hg]; exact Nat.ne_of_lt (blk_lt (g := gb307) (o := .cells #[.int .i64 a0_0, .int .i64 a0_1, .int .i64 a0_2] 41 (0, 0)) (by (with_reducible repeat (first | refine blk_drewN ?_ _ | refine blk_drew ?_ | refine blk_alloc ?_ _)); exact BK307.out)) : gb307 ≠ gb310))
     have n7_ := Aside0.mk ((by rw [hg]; exact Nat.ne_of_gt (blk_lt (g := gb307) (o := .cells #[.int .i64 a0_0, .int .i64 a0_1, .int .i64 a0_2] 41 (0, 0)) (by (with_reducible repeat (first | refine blk_drewN ?_ _ | refine blk_drew ?_ | refine blk_alloc ?_ _)); exact BK307.out)) : gb310 ≠ gb307))
     have n8_ := Aside0.mk ((by rw [hg]; exact Nat.ne_of_lt (blk_lt (g := gb308) (o := .cells #[.int .i64 a1_0, .int .i64 a1_1, .int .i64 a1_2] 41 (0, 0)) (by (with_reducible repeat (first | refine blk_drewN ?_ _ | refine blk_drew ?_ | refine blk_alloc ?_ _)); exact BK308.out)) : gb308 ≠ gb310))
     have n9_ := Aside0.mk ((by rw [hg]; exact Nat.ne_of_gt (blk_lt (g := gb308) (o := .cells #[.int .i64 a1_0, .int .i64 a1_1, .int .i64 a1_2] 41 (0, 0)) (by (with_reducible repeat (first | refine blk_drewN ?_ _ | refine blk_drew ?_ | refine blk_alloc ?_ _)); exact BK308.out)) : gb310 ≠ gb308))
     clear BK307
     clear BK308
     clear HB
     have BK307 := n0_
     have BK308 := n1_
     have HB := n2_
     have BK310 := n3_
     have GW310 := n4_
     have GE310 := n5_
     have NB307_310 := n6_
     have NB310_307 := n7_
     have NB308_310 := n8_
     have NB310_308 := n9_
     clear n0_ n1_ n2_ n3_ n4_ n5_ n6_ n7_ n8_ n9_
     clear hb hbox hg
     refine hK.out _ _ ⟨(blk_cell BK307.out 0).trans rfl, (blk_cell BK307.out 1).trans rfl, (blk_cell BK307.out 2).trans rfl, (blk_cell BK308.out 0).trans rfl, (blk_cell BK308.out 1).trans rfl, (blk_cell BK308.out 2).trans rfl⟩ (fun hHeld => ?_)
     clear hK K
     refine norm_ (a' := ?_) ?_ ?_
     rotate_left
     ·show Act.put _ (some 6) _ = _
      simp only [Act.put, List.setIfInBounds_toArray, List.set_cons_zero, List.set_cons_succ, i64_w, i32_w]
      rfl
     refine one_ (i := 2) (N := some 5) #[true, true, true, true, false, false] rfl rfl (by kernel_rfl) (by decide) (fun K hK => ?_)
     refine box_step ?hg (N := 5) ?hd (cs := #[.int .i64 0, .int .i64 0, .int .i64 0]) (t := 43) ?hr ?_; (case hd => rfl); (case hg => rfl); (case hr => first | (go_simp; done) | (go_simp; rfl))
     intro gb309 hg w33 hbox hb
     have n0_ := Aside0.mk (blk_below (g := gb307) (o := .cells #[.int .i64 a0_0, .int .i64 a0_1, .int .i64 a0_2] 41 (0, 0)) (by (with_reducible repeat (first | refine blk_drewN ?_ _ | refine blk_drew ?_ | refine blk_alloc ?_ _)); exact BK307.out) hb)
     have n1_ := Aside0.mk (blk_below (g := gb308) (o := .cells #[.int .i64 a1_0, .int .i64 a1_1, .int .i64 a1_2] 41 (0, 0)) (by (with_reducible repeat (first | refine blk_drewN ?_ _ | refine blk_drew ?_ | refine blk_alloc ?_ _)); exact BK308.out) hb)
     have n2_ := Aside0.mk (blk_below (g := gb310) (o := .cells #[.int .i64 0, .int .i64 0, .int .i64 0] 43 (0, 0)) (by (with_reducible repeat (first | refine blk_drewN ?_ _ | refine blk_drew ?_ | refine blk_alloc ?_ _)); exact BK310.out) hb)
     have n3_ := Aside0.mk (below_step (by repeat (first | (with_reducible first | exact HB.out | apply below_alloc | apply pw_below_drewN | apply below_drew1 | refine below_set ?_ GE307.out | refine below_set ?_ GE308.out | refine below_set ?_ GE310.out) | exact HB.out)) hb)
     have n4_ := Aside0.mk (hbox)
     have n5_ := Aside0.mk ((by rw [hg]; exact (below_size (by repeat (first | (with_reducible first | exact HB.out | apply below_alloc | apply pw_below_drewN | apply below_drew1 | refine below_set ?_ GE307.out | refine below_set ?_ GE308.out | refine below_set ?_ GE310.out) | exact HB.out))) : w.heap.size ≤ gb309))
     have n6_ := Aside0.mk ((by rw [hg]; exact (below_size (by repeat (first | (with_reducible first | exact HB.out | apply below_alloc | apply pw_below_drewN | apply below_drew1 | refine below_set ?_ GE307.out | refine below_set ?_ GE308.out | refine below_set ?_ GE310.out) | exact HB.out))) : w.heap.size ≤ gb309))
     have n7_ := Aside0.mk ((by rw [hg]; exact Nat.ne_of_lt (blk_lt (g := gb307) (o := .cells #[.int .i64 a0_0, .int .i64 a0_1, .int .i64 a0_2] 41 (0, 0)) (by (with_reducible repeat (first | refine blk_drewN ?_ _ | refine blk_drew ?_ | refine blk_alloc ?_ _)); exact BK307.out)) : gb307 ≠ gb309))
     have n8_ := Aside0.mk ((by rw [hg]; exact Nat.ne_of_gt (blk_lt (g := gb307) (o := .cells #[.int .i64 a0_0, .int .i64 a0_1, .int .i64 a0_2] 41 (0, 0)) (by (with_reducible repeat (first | refine blk_drewN ?_ _ | refine blk_drew ?_ | refine blk_alloc ?_ _)); exact BK307.out)) : gb309 ≠ gb307))
     have n9_ := Aside0.mk ((by rw [hg]; exact Nat.ne_of_lt (blk_lt (g := gb308) (o := .cells #[.int .i64 a1_0, .int .i64 a1_1, .int .i64 a1_2] 41 (0, 0)) (by (with_reducible repeat (first | refine blk_drewN ?_ _ | refine blk_drew ?_ | refine blk_alloc ?_ _)); exact BK308.out)) : gb308 ≠ gb309))
     have n10_ := Aside0.mk ((by rw [hg]; exact Nat.ne_of_gt (blk_lt (g := gb308) (o := .cells #[.int .i64 a1_0, .int .i64 a1_1, .int .i64 a1_2] 41 (0, 0)) (by (with_reducible repeat (first | refine blk_drewN ?_ _ | refine blk_drew ?_ | refine blk_alloc ?_ _)); exact BK308.out)) : gb309 ≠ gb308))
     have n11_ := Aside0.mk ((by rw [hg]; exact Nat.ne_of_lt (blk_lt (g := gb310) (o := .cells #[.int .i64 0, .int .i64 0, .int .i64 0] 43 (0, 0)) (by (with_reducible repeat (first | refine blk_drewN ?_ _ | refine blk_drew ?_ | refine blk_alloc ?_ _)); exact BK310.out)) : gb310 ≠ gb309))
     have n12_ := Aside0.mk ((by rw [hg]; exact Nat.ne_of_gt (blk_lt (g := gb310) (o := .cells #[.int .i64 0, .int .i64 0, .int .i64 0] 43 (0, 0)) (by (with_reducible repeat (first | refine blk_drewN ?_ _ | refine blk_drew ?_ | refine blk_alloc ?_ _)); exact BK310.out)) : gb309 ≠ gb310))
     clear BK307
     clear BK308
     clear BK310
     clear HB
     have BK307 := n0_
     have BK308 := n1_
     have BK310 := n2_
     have HB := n3_
     have BK309 := n4_
     have GW309 := n5_
     have GE309 := n6_
     have NB307_309 := n7_
     have NB309_307 := n8_
     have NB308_309 := n9_
     have NB309_308 := n10_
     have NB310_309 := n11_
     have NB309_310 := n12_
     clear n0_ n1_ n2_ n3_ n4_ n5_ n6_ n7_ n8_ n9_ n10_ n11_ n12_
     clear hb hbox hg
     refine hK.out _ _ ⟨(blk_cell BK307.out 0).trans rfl, (blk_cell BK307.out 1).trans rfl, (blk_cell BK307.out 2).trans rfl, (blk_cell BK308.out 0).trans rfl, (blk_cell BK308.out 1).trans rfl, (blk_cell BK308.out 2).trans rfl⟩ (fun hHeld => ?_)
     clear hK K
     refine norm_ (a' := ?_) ?_ ?_
     rotate_left
     ·show Act.put _ (some 5) _ = _
      simp only [Act.put, List.setIfInBounds_toArray, List.set_cons_zero, List.set_cons_succ, i64_w, i32_w]
      rfl
     exact norm_ (by simp only [putAll, Act.put, List.setIfInBounds_toArray, List.set_cons_zero, List.set_cons_succ]) (hCont (gb309, gb310) _ ⟨hHeld, (by (with_reducible repeat (first | refine blk_drewN ?_ _ | refine blk_drew ?_ | refine blk_alloc ?_ _)); exact BK307.out), (by (with_reducible repeat (first | refine blk_drewN ?_ _ | refine blk_drew ?_ | refine blk_alloc ?_ _)); exact BK308.out), (by (with_reducible repeat (first | refine blk_drewN ?_ _ | refine blk_drew ?_ | refine blk_alloc ?_ _)); exact BK309.out), (by (with_reducible repeat (first | refine blk_drewN ?_ _ | refine blk_drew ?_ | refine blk_alloc ?_ _)); exact BK310.out), GW309.out, GE309.out, NB307_309.out, NB309_307.out, NB308_309.out, NB309_308.out, NB310_309.out, NB309_310.out, GW310.out, GE310.out, NB307_310.out, NB310_307.out, NB308_310.out, NB310_308.out, (by repeat (first | (with_reducible first | exact HB.out | apply below_alloc | apply pw_below_drewN | apply below_drew1 | refine below_set ?_ GE307.out | refine below_set ?_ GE308.out | refine below_set ?_ GE310.out | refine below_set ?_ GE309.out) | exact HB.out))⟩)
   rintro ⟨gb309, gb310⟩ w34 ⟨hS_, h0_, h1_, h2_, h3_, h4_, h5_, h6_, h7_, h8_, h9_, h10_, h11_, h12_, h13_, h14_, h15_, h16_, h17_, h18_⟩
   have n0_ : Aside0 (w34.heap[gb307]? = some (.cells #[.int .i64 a0_0, .int .i64 a0_1, .int .i64 a0_2] 41 (0, 0))) := ⟨h0_⟩
   have n1_ : Aside0 (w34.heap[gb308]? = some (.cells #[.int .i64 a1_0, .int .i64 a1_1, .int .i64 a1_2] 41 (0, 0))) := ⟨h1_⟩
   have n2_ : Aside0 (w34.heap[gb309]? = some (.cells #[.int .i64 0, .int .i64 0, .int .i64 0] 43 (0, 0))) := ⟨h2_⟩
   have n3_ : Aside0 (w34.heap[gb310]? = some (.cells #[.int .i64 0, .int .i64 0, .int .i64 0] 43 (0, 0))) := ⟨h3_⟩
   have n4_ : Aside0 (w.heap.size ≤ gb309) := ⟨h4_⟩
   have n5_ : Aside0 (w.heap.size ≤ gb309) := ⟨h5_⟩
   have n6_ : Aside0 (gb307 ≠ gb309) := ⟨h6_⟩
   have n7_ : Aside0 (gb309 ≠ gb307) := ⟨h7_⟩
   have n8_ : Aside0 (gb308 ≠ gb309) := ⟨h8_⟩
   have n9_ : Aside0 (gb309 ≠ gb308) := ⟨h9_⟩
   have n10_ : Aside0 (gb310 ≠ gb309) := ⟨h10_⟩
   have n11_ : Aside0 (gb309 ≠ gb310) := ⟨h11_⟩
   have n12_ : Aside0 (w.heap.size ≤ gb310) := ⟨h12_⟩
   have n13_ : Aside0 (w.heap.size ≤ gb310) := ⟨h13_⟩
   have n14_ : Aside0 (gb307 ≠ gb310) := ⟨h14_⟩
   have n15_ : Aside0 (gb310 ≠ gb307) := ⟨h15_⟩
   have n16_ : Aside0 (gb308 ≠ gb310) := ⟨h16_⟩
   have n17_ : Aside0 (gb310 ≠ gb308) := ⟨h17_⟩
   have n18_ : Aside0 (Below w.heap.size w w34) := ⟨h18_⟩
   clear BK307
   clear BK308
   clear HB
   clear h0_ h1_ h2_ h3_ h4_ h5_ h6_ h7_ h8_ h9_ h10_ h11_ h12_ h13_ h14_ h15_ h16_ h17_ h18_
   have BK307 := n0_
   have BK308 := n1_
   have BK309 := n2_
   have BK310 := n3_
   have GW309 := n4_
   have GE309 := n5_
   have NB307_309 := n6_
   have NB309_307 := n7_
   have NB308_309 := n8_
   have NB309_308 := n9_
   have NB310_309 := n10_
   have NB309_310 := n11_
   have GW310 := n12_
   have GE310 := n13_
   have NB307_310 := n14_
   have NB310_307 := n15_
   have NB308_310 := n16_
   have NB310_308 := n17_
   have HB := n18_
   clear n0_ n1_ n2_ n3_ n4_ n5_ n6_ n7_ n8_ n9_ n10_ n11_ n12_ n13_ n14_ n15_ n16_ n17_ n18_
   have hHeld : w34.cell? ⟨gb307, 0, none⟩ = some (.int .i64 a0_0) ∧ w34.cell? ⟨gb307, 1, none⟩ = some (.int .i64 a0_1) ∧ w34.cell? ⟨gb307, 2, none⟩ = some (.int .i64 a0_2) ∧ w34.cell? ⟨gb308, 0, none⟩ = some (.int .i64 a1_0) ∧ w34.cell? ⟨gb308, 1, none⟩ = some (.int .i64 a1_1) ∧ w34.cell? ⟨gb308, 2, none⟩ = some (.int .i64 a1_2) := hS_
   refine norm_ (a' := ?_) ?_ ?_
   rotate_left
   ·simp only [putAll, Act.put, List.setIfInBounds_toArray, List.set_cons_zero, List.set_cons_succ]
    rfl
   refine one_ (i := 4) (N := none) #[true, true, true, true, true, false] rfl rfl (by kernel_rfl) (by decide) (fun K hK => ?_)
   have hs35 : w34.cell? ⟨gb309, 0, none⟩ = some (.int .i64 0) := (blk_cell BK309.out 0).trans rfl
   have hfs35 := blk_frozen BK309.out 0
   have hns35_0 := NB307_309.out
   have hns35_1 := NB308_309.out
   have hns35_3 := NB310_309.out
   have hms35_0 := NB309_307.out
   have hms35_1 := NB309_308.out
   have hms35_3 := NB309_310.out
   have hs36 : w34.cell? ⟨gb309, 1, none⟩ = some (.int .i64 0) := (blk_cell BK309.out 1).trans rfl
   have hfs36 := blk_frozen BK309.out 1
   have hns36_0 := NB307_309.out
   have hns36_1 := NB308_309.out
   have hns36_3 := NB310_309.out
   have hms36_0 := NB309_307.out
   have hms36_1 := NB309_308.out
   have hms36_3 := NB309_310.out
   have hs37 : w34.cell? ⟨gb309, 2, none⟩ = some (.int .i64 0) := (blk_cell BK309.out 2).trans rfl
   have hfs37 := blk_frozen BK309.out 2
   have hns37_0 := NB307_309.out
   have hns37_1 := NB308_309.out
   have hns37_3 := NB310_309.out
   have hms37_0 := NB309_307.out
   have hms37_1 := NB309_308.out
   have hms37_3 := NB309_310.out
   refine skip_ (w1 := ?_) (by rfl) rfl ?_ ?_
   rotate_left
   ·go_simp
    rfl
   refine hK.out _ _ ⟨((cell_far (p := ⟨gb309, _, none⟩) NB307_309.out _).trans (((cell_far (p := ⟨gb309, _, none⟩) NB307_309.out _).trans (((cell_far (p := ⟨gb309, _, none⟩) NB307_309.out _).trans (hHeld.1)))))), ((cell_far (p := ⟨gb309, _, none⟩) NB307_309.out _).trans (((cell_far (p := ⟨gb309, _, none⟩) NB307_309.out _).trans (((cell_far (p := ⟨gb309, _, none⟩) NB307_309.out _).trans (hHeld.2.1)))))), ((cell_far (p := ⟨gb309, _, none⟩) NB307_309.out _).trans (((cell_far (p := ⟨gb309, _, none⟩) NB307_309.out _).trans (((cell_far (p := ⟨gb309, _, none⟩) NB307_309.out _).trans (hHeld.2.2.1)))))), ((cell_far (p := ⟨gb309, _, none⟩) NB308_309.out _).trans (((cell_far (p := ⟨gb309, _, none⟩) NB308_309.out _).trans (((cell_far (p := ⟨gb309, _, none⟩) NB308_309.out _).trans (hHeld.2.2.2.1)))))), ((cell_far (p := ⟨gb309, _, none⟩) NB308_309.out _).trans (((cell_far (p := ⟨gb309, _, none⟩) NB308_309.out _).trans (((cell_far (p := ⟨gb309, _, none⟩) NB308_309.out _).trans (hHeld.2.2.2.2.1)))))), ((cell_far (p := ⟨gb309, _, none⟩) NB308_309.out _).trans (((cell_far (p := ⟨gb309, _, none⟩) NB308_309.out _).trans (((cell_far (p := ⟨gb309, _, none⟩) NB308_309.out _).trans (hHeld.2.2.2.2.2))))))⟩ (fun hHeld => ?_)
   clear hK K
   refine one_ (i := 5) (N := none) #[true, true, true, true, true, true] rfl rfl (by kernel_rfl) (by decide) (fun K hK => ?_)
   have hs38 : w34.cell? ⟨gb310, 0, none⟩ = some (.int .i64 0) := (blk_cell BK310.out 0).trans rfl
   have hfs38 := blk_frozen BK310.out 0
   have hns38_0 := NB307_310.out
   have hns38_1 := NB308_310.out
   have hns38_2 := NB309_310.out
   have hms38_0 := NB310_307.out
   have hms38_1 := NB310_308.out
   have hms38_2 := NB310_309.out
   have hs39 : w34.cell? ⟨gb310, 1, none⟩ = some (.int .i64 0) := (blk_cell BK310.out 1).trans rfl
   have hfs39 := blk_frozen BK310.out 1
   have hns39_0 := NB307_310.out
   have hns39_1 := NB308_310.out
   have hns39_2 := NB309_310.out
   have hms39_0 := NB310_307.out
   have hms39_1 := NB310_308.out
   have hms39_2 := NB310_309.out
   have hs40 : w34.cell? ⟨gb310, 2, none⟩ = some (.int .i64 0) := (blk_cell BK310.out 2).trans rfl
   have hfs40 := blk_frozen BK310.out 2
   have hns40_0 := NB307_310.out
   have hns40_1 := NB308_310.out
   have hns40_2 := NB309_310.out
   have hms40_0 := NB310_307.out
   have hms40_1 := NB310_308.out
   have hms40_2 := NB310_309.out
   refine skip_ (w1 := ?_) (by rfl) rfl ?_ ?_
   rotate_left
   ·go_simp
    rfl
   refine hK.out _ _ ⟨((cell_far (p := ⟨gb310, _, none⟩) NB307_310.out _).trans (((cell_far (p := ⟨gb310, _, none⟩) NB307_310.out _).trans (((cell_far (p := ⟨gb310, _, none⟩) NB307_310.out _).trans (hHeld.1)))))), ((cell_far (p := ⟨gb310, _, none⟩) NB307_310.out _).trans (((cell_far (p := ⟨gb310, _, none⟩) NB307_310.out _).trans (((cell_far (p := ⟨gb310, _, none⟩) NB307_310.out _).trans (hHeld.2.1)))))), ((cell_far (p := ⟨gb310, _, none⟩) NB307_310.out _).trans (((cell_far (p := ⟨gb310, _, none⟩) NB307_310.out _).trans (((cell_far (p := ⟨gb310, _, none⟩) NB307_310.out _).trans (hHeld.2.2.1)))))), ((cell_far (p := ⟨gb310, _, none⟩) NB308_310.out _).trans (((cell_far (p := ⟨gb310, _, none⟩) NB308_310.out _).trans (((cell_far (p := ⟨gb310, _, none⟩) NB308_310.out _).trans (hHeld.2.2.2.1)))))), ((cell_far (p := ⟨gb310, _, none⟩) NB308_310.out _).trans (((cell_far (p := ⟨gb310, _, none⟩) NB308_310.out _).trans (((cell_far (p := ⟨gb310, _, none⟩) NB308_310.out _).trans (hHeld.2.2.2.2.1)))))), ((cell_far (p := ⟨gb310, _, none⟩) NB308_310.out _).trans (((cell_far (p := ⟨gb310, _, none⟩) NB308_310.out _).trans (((cell_far (p := ⟨gb310, _, none⟩) NB308_310.out _).trans (hHeld.2.2.2.2.2))))))⟩ (fun hHeld => ?_)
   clear hK K
   refine done_ (by kernel_rfl) ?_
   try go_wp2
   have n0_ : Aside0 (((((((w34.setCell ⟨gb309, 0, none⟩ (.int .i64 a0_0)).setCell ⟨gb309, 1, none⟩ (.int .i64 a0_1)).setCell ⟨gb309, 2, none⟩ (.int .i64 a0_2)).setCell ⟨gb310, 0, none⟩ (.int .i64 a1_0)).setCell ⟨gb310, 1, none⟩ (.int .i64 a1_1)).setCell ⟨gb310, 2, none⟩ (.int .i64 a1_2)).heap[gb307]? = some (.cells #[.int .i64 a0_0, .int .i64 a0_1, .int .i64 a0_2] 41 (0, 0))) := ⟨by (with_reducible repeat (first | refine blk_drewN ?_ _ | refine blk_drew ?_ | refine blk_alloc ?_ _)); refine blk_far ?_ NB307_310.out _; (with_reducible repeat (first | refine blk_drewN ?_ _ | refine blk_drew ?_ | refine blk_alloc ?_ _)); refine blk_far ?_ NB307_310.out _; (with_reducible repeat (first | refine blk_drewN ?_ _ | refine blk_drew ?_ | refine blk_alloc ?_ _)); refine blk_far ?_ NB307_310.out _; (with_reducible repeat (first | refine blk_drewN ?_ _ | refine blk_drew ?_ | refine blk_alloc ?_ _)); refine blk_far ?_ NB307_309.out _; (with_reducible repeat (first | refine blk_drewN ?_ _ | refine blk_drew ?_ | refine blk_alloc ?_ _)); refine blk_far ?_ NB307_309.out _; (with_reducible repeat (first | refine blk_drewN ?_ _ | refine blk_drew ?_ | refine blk_alloc ?_ _)); refine blk_far ?_ NB307_309.out _; (with_reducible repeat (first | refine blk_drewN ?_ _ | refine blk_drew ?_ | refine blk_alloc ?_ _)); exact BK307.out⟩
   have n1_ : Aside0 (((((((w34.setCell ⟨gb309, 0, none⟩ (.int .i64 a0_0)).setCell ⟨gb309, 1, none⟩ (.int .i64 a0_1)).setCell ⟨gb309, 2, none⟩ (.int .i64 a0_2)).setCell ⟨gb310, 0, none⟩ (.int .i64 a1_0)).setCell ⟨gb310, 1, none⟩ (.int .i64 a1_1)).setCell ⟨gb310, 2, none⟩ (.int .i64 a1_2)).heap[gb308]? = some (.cells #[.int .i64 a1_0, .int .i64 a1_1, .int .i64 a1_2] 41 (0, 0))) := ⟨by (with_reducible repeat (first | refine blk_drewN ?_ _ | refine blk_drew ?_ | refine blk_alloc ?_ _)); refine blk_far ?_ NB308_310.out _; (with_reducible repeat (first | refine blk_drewN ?_ _ | refine blk_drew ?_ | refine blk_alloc ?_ _)); refine blk_far ?_ NB308_310.out _; (with_reducible repeat (first | refine blk_drewN ?_ _ | refine blk_drew ?_ | refine blk_alloc ?_ _)); refine blk_far ?_ NB308_310.out _; (with_reducible repeat (first | refine blk_drewN ?_ _ | refine blk_drew ?_ | refine blk_alloc ?_ _)); refine blk_far ?_ NB308_309.out _; (with_reducible repeat (first | refine blk_drewN ?_ _ | refine blk_drew ?_ | refine blk_alloc ?_ _)); refine blk_far ?_ NB308_309.out _; (with_reducible repeat (first | refine blk_drewN ?_ _ | refine blk_drew ?_ | refine blk_alloc ?_ _)); refine blk_far ?_ NB308_309.out _; (with_reducible repeat (first | refine blk_drewN ?_ _ | refine blk_drew ?_ | refine blk_alloc ?_ _)); exact BK308.out⟩
   have n2_ : Aside0 (((((((w34.setCell ⟨gb309, 0, none⟩ (.int .i64 a0_0)).setCell ⟨gb309, 1, none⟩ (.int .i64 a0_1)).setCell ⟨gb309, 2, none⟩ (.int .i64 a0_2)).setCell ⟨gb310, 0, none⟩ (.int .i64 a1_0)).setCell ⟨gb310, 1, none⟩ (.int .i64 a1_1)).setCell ⟨gb310, 2, none⟩ (.int .i64 a1_2)).heap[gb309]? = some (.cells #[.int .i64 a0_0, .int .i64 a0_1, .int .i64 a0_2] 43 (0, 0))) := ⟨by (with_reducible repeat (first | refine blk_drewN ?_ _ | refine blk_drew ?_ | refine blk_alloc ?_ _)); refine blk_far ?_ NB309_310.out _; (with_reducible repeat (first | refine blk_drewN ?_ _ | refine blk_drew ?_ | refine blk_alloc ?_ _)); refine blk_far ?_ NB309_310.out _; (with_reducible repeat (first | refine blk_drewN ?_ _ | refine blk_drew ?_ | refine blk_alloc ?_ _)); refine blk_far ?_ NB309_310.out _; (with_reducible repeat (first | refine blk_drewN ?_ _ | refine blk_drew ?_ | refine blk_alloc ?_ _)); refine blk_put (cs := #[.int .i64 a0_0, .int .i64 a0_1, .int .i64 0]) ?_ 2 _ rfl; (with_reducible repeat (first | refine blk_drewN ?_ _ | refine blk_drew ?_ | refine blk_alloc ?_ _)); refine blk_put (cs := #[.int .i64 a0_0, .int .i64 0, .int .i64 0]) ?_ 1 _ rfl; (with_reducible repeat (first | refine blk_drewN ?_ _ | refine blk_drew ?_ | refine blk_alloc ?_ _)); refine blk_put (cs := #[.int .i64 0, .int .i64 0, .int .i64 0]) ?_ 0 _ rfl; (with_reducible repeat (first | refine blk_drewN ?_ _ | refine blk_drew ?_ | refine blk_alloc ?_ _)); exact BK309.out⟩
   have n3_ : Aside0 (((((((w34.setCell ⟨gb309, 0, none⟩ (.int .i64 a0_0)).setCell ⟨gb309, 1, none⟩ (.int .i64 a0_1)).setCell ⟨gb309, 2, none⟩ (.int .i64 a0_2)).setCell ⟨gb310, 0, none⟩ (.int .i64 a1_0)).setCell ⟨gb310, 1, none⟩ (.int .i64 a1_1)).setCell ⟨gb310, 2, none⟩ (.int .i64 a1_2)).heap[gb310]? = some (.cells #[.int .i64 a1_0, .int .i64 a1_1, .int .i64 a1_2] 43 (0, 0))) := ⟨by (with_reducible repeat (first | refine blk_drewN ?_ _ | refine blk_drew ?_ | refine blk_alloc ?_ _)); refine blk_put (cs := #[.int .i64 a1_0, .int .i64 a1_1, .int .i64 0]) ?_ 2 _ rfl; (with_reducible repeat (first | refine blk_drewN ?_ _ | refine blk_drew ?_ | refine blk_alloc ?_ _)); refine blk_put (cs := #[.int .i64 a1_0, .int .i64 0, .int .i64 0]) ?_ 1 _ rfl; (with_reducible repeat (first | refine blk_drewN ?_ _ | refine blk_drew ?_ | refine blk_alloc ?_ _)); refine blk_put (cs := #[.int .i64 0, .int .i64 0, .int .i64 0]) ?_ 0 _ rfl; (with_reducible repeat (first | refine blk_drewN ?_ _ | refine blk_drew ?_ | refine blk_alloc ?_ _)); refine blk_far ?_ NB310_309.out _; (with_reducible repeat (first | refine blk_drewN ?_ _ | refine blk_drew ?_ | refine blk_alloc ?_ _)); refine blk_far ?_ NB310_309.out _; (with_reducible repeat (first | refine blk_drewN ?_ _ | refine blk_drew ?_ | refine blk_alloc ?_ _)); refine blk_far ?_ NB310_309.out _; (with_reducible repeat (first | refine blk_drewN ?_ _ | refine blk_drew ?_ | refine blk_alloc ?_ _)); exact BK310.out⟩
   have n4_ : Aside0 (Below w.heap.size w ((((((w34.setCell ⟨gb309, 0, none⟩ (.int .i64 a0_0)).setCell ⟨gb309, 1, none⟩ (.int .i64 a0_1)).setCell ⟨gb309, 2, none⟩ (.int .i64 a0_2)).setCell ⟨gb310, 0, none⟩ (.int .i64 a1_0)).setCell ⟨gb310, 1, none⟩ (.int .i64 a1_1)).setCell ⟨gb310, 2, none⟩ (.int .i64 a1_2))) := ⟨by repeat (first | (with_reducible first | exact HB.out | apply below_alloc | apply pw_below_drewN | apply below_drew1 | refine below_set ?_ GE307.out | refine below_set ?_ GE308.out | refine below_set ?_ GE309.out | refine below_set ?_ GE310.out) | exact HB.out)⟩
   (try clear BK307)
   (try clear BK308)
   (try clear BK309)
   (try clear BK310)
   (try clear HB)
   generalize ((((((w34.setCell ⟨gb309, 0, none⟩ (.int .i64 a0_0)).setCell ⟨gb309, 1, none⟩ (.int .i64 a0_1)).setCell ⟨gb309, 2, none⟩ (.int .i64 a0_2)).setCell ⟨gb310, 0, none⟩ (.int .i64 a1_0)).setCell ⟨gb310, 1, none⟩ (.int .i64 a1_1)).setCell ⟨gb310, 2, none⟩ (.int .i64 a1_2)) = w41 at n0_ n1_ n2_ n3_ n4_ ⊢
   have BK307 := n0_
   have BK308 := n1_
   have BK309 := n2_
   have BK310 := n3_
   have HB := n4_
   clear n0_ n1_ n2_ n3_ n4_
   have n0_ := Aside0.mk (blk_drew BK307.out)
   have n1_ := Aside0.mk (blk_drew BK308.out)
   have n2_ := Aside0.mk (blk_drew BK309.out)
   have n3_ := Aside0.mk (blk_drew BK310.out)
   have n4_ := Aside0.mk (below_drew1 HB.out)
   clear BK307
   clear BK308
   clear BK309
   clear BK310
   clear HB
   have BK307 := n0_
   have BK308 := n1_
   have BK309 := n2_
   have BK310 := n3_
   have HB := n4_
   clear n0_ n1_ n2_ n3_ n4_
   refine start_ (n := 20) (S := fun w' => w'.cell? ⟨gb307, 0, none⟩ = some (.int .i64 a0_0) ∧ w'.cell? ⟨gb307, 1, none⟩ = some (.int .i64 a0_1) ∧ w'.cell? ⟨gb307, 2, none⟩ = some (.int .i64 a0_2) ∧ w'.cell? ⟨gb308, 0, none⟩ = some (.int .i64 a1_0) ∧ w'.cell? ⟨gb308, 1, none⟩ = some (.int .i64 a1_1) ∧ w'.cell? ⟨gb308, 2, none⟩ = some (.int .i64 a1_2) ∧ w'.cell? ⟨gb309, 0, none⟩ = some (.int .i64 a0_0) ∧ w'.cell? ⟨gb309, 1, none⟩ = some (.int .i64 a0_1) ∧ w'.cell? ⟨gb309, 2, none⟩ = some (.int .i64 a0_2) ∧ w'.cell? ⟨gb310, 0, none⟩ = some (.int .i64 a1_0) ∧ w'.cell? ⟨gb310, 1, none⟩ = some (.int .i64 a1_1) ∧ w'.cell? ⟨gb310, 2, none⟩ = some (.int .i64 a1_2)) (ds := []) #[false, false, false, false, false, false, false, false, false, false, false, false, false, false, false, false, false, false, false, false] (by kernel_rfl) rfl rfl ⟨(blk_cell BK307.out 0).trans rfl, (blk_cell BK307.out 1).trans rfl, (blk_cell BK307.out 2).trans rfl, (blk_cell BK308.out 0).trans rfl, (blk_cell BK308.out 1).trans rfl, (blk_cell BK308.out 2).trans rfl, (blk_cell BK309.out 0).trans rfl, (blk_cell BK309.out 1).trans rfl, (blk_cell BK309.out 2).trans rfl, (blk_cell BK310.out 0).trans rfl, (blk_cell BK310.out 1).trans rfl, (blk_cell BK310.out 2).trans rfl⟩ (fun hHeld => ?_); refine with_tabW corporalaw10_TreelabelCompares.tab2 corporalaw10_TreelabelCompares.bits2 (fun HT_ HW_ => ?_)
   generalize w41.drew = w42 at BK307 BK308 BK309 BK310 HB hHeld ⊢
   refine take_ (i := 0) (N := some 9) (v := ?_) (a' := ?_) #[true, false, false, false, false, false, false, false, false, false, false, false, false, false, false, false, false, false, false, false] rfl rfl (take_ofW HT_.out HW_.out (by kernel_rfl)) (fun _ _ _ h => h) (Or.inl ⟨by rfl, ?_⟩) hHeld ?_ ?_
   rotate_left
   ·rintro w' ⟨s0, s1, s2, s3, s4, s5, s6, s7, s8, s9, s10, s11⟩
    go_simp
    with_reducible rfl
   rotate_left
   ·simp only [Act.put, List.setIfInBounds_toArray, List.set_cons_zero, List.set_cons_succ, i64_w, i32_w]
    rfl
   refine take_ (i := 1) (N := some 10) (v := ?_) (a' := ?_) #[true, true, false, false, false, false, false, false, false, false, false, false, false, false, false, false, false, false, false, false] rfl rfl (take_ofW HT_.out HW_.out (by kernel_rfl)) (fun _ _ _ h => h) (Or.inl ⟨by rfl, ?_⟩) hHeld ?_ ?_
   rotate_left
   ·rintro w' ⟨s0, s1, s2, s3, s4, s5, s6, s7, s8, s9, s10, s11⟩
    go_simp
    with_reducible rfl
   rotate_left
   ·simp only [Act.put, List.setIfInBounds_toArray, List.set_cons_zero, List.set_cons_succ, i64_w, i32_w]
    rfl
   refine take_ (i := 3) (N := some 12) (v := ?_) (a' := ?_) #[true, true, false, true, false, false, false, false, false, false, false, false, false, false, false, false, false, false, false, false] rfl rfl (take_ofW HT_.out HW_.out (by kernel_rfl)) (fun _ _ _ h => h) (Or.inl ⟨by rfl, ?_⟩) hHeld ?_ ?_
   rotate_left
   ·rintro w' ⟨s0, s1, s2, s3, s4, s5, s6, s7, s8, s9, s10, s11⟩
    go_simp
    with_reducible rfl
   rotate_left
   ·simp only [Act.put, List.setIfInBounds_toArray, List.set_cons_zero, List.set_cons_succ, i64_w, i32_w]
    rfl
   refine take_ (i := 4) (N := some 13) (v := ?_) (a' := ?_) #[true, true, false, true, true, false, false, false, false, false, false, false, false, false, false, false, false, false, false, false] rfl rfl (take_ofW HT_.out HW_.out (by kernel_rfl)) (fun _ _ _ h => h) (Or.inl ⟨by rfl, ?_⟩) hHeld ?_ ?_
   rotate_left
   ·rintro w' ⟨s0, s1, s2, s3, s4, s5, s6, s7, s8, s9, s10, s11⟩
    go_simp
    with_reducible rfl
   rotate_left
   ·simp only [Act.put, List.setIfInBounds_toArray, List.set_cons_zero, List.set_cons_succ, i64_w, i32_w]
    rfl
   refine one_ (i := 2) (N := some 11) #[true, true, true, true, true, false, false, false, false, false, false, false, false, false, false, false, false, false, false, false] rfl rfl (one_of HT_.out (by kernel_rfl)) (by decide) (fun K hK => ?_)
   refine goes_ Try.func20 (by kernel_rfl) rfl #[.agg #[.int .i64 a0_0, .int .i64 a0_1, .int .i64 a0_2], .agg #[.int .i64 a1_0, .int .i64 a1_1, .int .i64 a1_2]] (by rfl) rfl rfl (by (try simp only [List.map_toArray, List.map_cons, List.map_nil]); first | done | rfl | (simp only [List.length_drop, List.length_take]; rfl)) ?_
   with_reducible refine (treelabel_Dominates.calls a0_0 a0_1 a0_2 a1_0 a1_1 a1_2 t311 _ A3.out).mono ?_
   rintro e w43 ⟨rfl, hb⟩
   refine ⟨_, rfl, ?_⟩
   have n0_ := Aside0.mk (blk_below (g := gb307) (o := .cells #[.int .i64 a0_0, .int .i64 a0_1, .int .i64 a0_2] 41 (0, 0)) (by (with_reducible repeat (first | refine blk_drewN ?_ _ | refine blk_drew ?_ | refine blk_alloc ?_ _)); exact BK307.out) hb)
   have n1_ := Aside0.mk (blk_below (g := gb308) (o := .cells #[.int .i64 a1_0, .int .i64 a1_1, .int .i64 a1_2] 41 (0, 0)) (by (with_reducible repeat (first | refine blk_drewN ?_ _ | refine blk_drew ?_ | refine blk_alloc ?_ _)); exact BK308.out) hb)
   have n2_ := Aside0.mk (blk_below (g := gb309) (o := .cells #[.int .i64 a0_0, .int .i64 a0_1, .int .i64 a0_2] 43 (0, 0)) (by (with_reducible repeat (first | refine blk_drewN ?_ _ | refine blk_drew ?_ | refine blk_alloc ?_ _)); exact BK309.out) hb)
   have n3_ := Aside0.mk (blk_below (g := gb310) (o := .cells #[.int .i64 a1_0, .int .i64 a1_1, .int .i64 a1_2] 43 (0, 0)) (by (with_reducible repeat (first | refine blk_drewN ?_ _ | refine blk_drew ?_ | refine blk_alloc ?_ _)); exact BK310.out) hb)
   have n4_ := Aside0.mk (below_step (by repeat (first | (with_reducible first | exact HB.out | apply below_alloc | apply pw_below_drewN | apply below_drew1 | refine below_set ?_ GE307.out | refine below_set ?_ GE308.out | refine below_set ?_ GE309.out | refine below_set ?_ GE310.out) | exact HB.out)) hb)
   clear BK307
   clear BK308
   clear BK309
   clear BK310
   clear HB
   have BK307 := n0_
   have BK308 := n1_
   have BK309 := n2_
   have BK310 := n3_
   have HB := n4_
   clear n0_ n1_ n2_ n3_ n4_
   (try clear hb)
   (try clear hb2)
   (try clear hk)
   (try clear hi)
   refine hK.out _ _ ⟨(blk_cell BK307.out 0).trans rfl, (blk_cell BK307.out 1).trans rfl, (blk_cell BK307.out 2).trans rfl, (blk_cell BK308.out 0).trans rfl, (blk_cell BK308.out 1).trans rfl, (blk_cell BK308.out 2).trans rfl, (blk_cell BK309.out 0).trans rfl, (blk_cell BK309.out 1).trans rfl, (blk_cell BK309.out 2).trans rfl, (blk_cell BK310.out 0).trans rfl, (blk_cell BK310.out 1).trans rfl, (blk_cell BK310.out 2).trans rfl⟩ (fun hHeld => ?_)
   clear hK K
   refine norm_ (a' := ?_) ?_ ?_
   rotate_left
   ·show Act.put _ (some 11) _ = _
    simp only [Act.put, List.setIfInBounds_toArray, List.set_cons_zero, List.set_cons_succ, i64_w, i32_w]
    rfl
   refine one_ (i := 5) (N := some 14) #[true, true, true, true, true, true, false, false, false, false, false, false, false, false, false, false, false, false, false, false] rfl rfl (one_of HT_.out (by kernel_rfl)) (by decide) (fun K hK => ?_)
   refine goes_ Try.func22 (by kernel_rfl) rfl #[.agg #[.int .i64 a0_0, .int .i64 a0_1, .int .i64 a0_2], .agg #[.int .i64 a1_0, .int .i64 a1_1, .int .i64 a1_2]] (by rfl) rfl rfl (by (try simp only [List.map_toArray, List.map_cons, List.map_nil]); first | done | rfl | (simp only [List.length_drop, List.length_take]; rfl)) ?_
   with_reducible refine (corporaref10_Dominates.calls a0_0 a0_1 a0_2 a1_0 a1_1 a1_2 t312 _ A4.out).mono ?_
   rintro e w44 ⟨rfl, hb⟩
   refine ⟨_, rfl, ?_⟩
   have n0_ := Aside0.mk (blk_below (g := gb307) (o := .cells #[.int .i64 a0_0, .int .i64 a0_1, .int .i64 a0_2] 41 (0, 0)) (by (with_reducible repeat (first | refine blk_drewN ?_ _ | refine blk_drew ?_ | refine blk_alloc ?_ _)); exact BK307.out) hb)
   have n1_ := Aside0.mk (blk_below (g := gb308) (o := .cells #[.int .i64 a1_0, .int .i64 a1_1, .int .i64 a1_2] 41 (0, 0)) (by (with_reducible repeat (first | refine blk_drewN ?_ _ | refine blk_drew ?_ | refine blk_alloc ?_ _)); exact BK308.out) hb)
   have n2_ := Aside0.mk (blk_below (g := gb309) (o := .cells #[.int .i64 a0_0, .int .i64 a0_1, .int .i64 a0_2] 43 (0, 0)) (by (with_reducible repeat (first | refine blk_drewN ?_ _ | refine blk_drew ?_ | refine blk_alloc ?_ _)); exact BK309.out) hb)
   have n3_ := Aside0.mk (blk_below (g := gb310) (o := .cells #[.int .i64 a1_0, .int .i64 a1_1, .int .i64 a1_2] 43 (0, 0)) (by (with_reducible repeat (first | refine blk_drewN ?_ _ | refine blk_drew ?_ | refine blk_alloc ?_ _)); exact BK310.out) hb)
   have n4_ := Aside0.mk (below_step (by repeat (first | (with_reducible first | exact HB.out | apply below_alloc | apply pw_below_drewN | apply below_drew1 | refine below_set ?_ GE307.out | refine below_set ?_ GE308.out | refine below_set ?_ GE309.out | refine below_set ?_ GE310.out) | exact HB.out)) hb)
   clear BK307
   clear BK308
   clear BK309
   clear BK310
   clear HB
   have BK307 := n0_
   have BK308 := n1_
   have BK309 := n2_
   have BK310 := n3_
   have HB := n4_
   clear n0_ n1_ n2_ n3_ n4_
   (try clear hb)
   (try clear hb2)
   (try clear hk)
   (try clear hi)
   refine hK.out _ _ ⟨(blk_cell BK307.out 0).trans rfl, (blk_cell BK307.out 1).trans rfl, (blk_cell BK307.out 2).trans rfl, (blk_cell BK308.out 0).trans rfl, (blk_cell BK308.out 1).trans rfl, (blk_cell BK308.out 2).trans rfl, (blk_cell BK309.out 0).trans rfl, (blk_cell BK309.out 1).trans rfl, (blk_cell BK309.out 2).trans rfl, (blk_cell BK310.out 0).trans rfl, (blk_cell BK310.out 1).trans rfl, (blk_cell BK310.out 2).trans rfl⟩ (fun hHeld => ?_)
   clear hK K
   refine norm_ (a' := ?_) ?_ ?_
   rotate_left
   ·show Act.put _ (some 14) _ = _
    simp only [Act.put, List.setIfInBounds_toArray, List.set_cons_zero, List.set_cons_succ, i64_w, i32_w]
    rfl
   refine pure_ (i := 6) (N := some 15) (v := ?_) (a' := ?_) #[true, true, true, true, true, true, true, false, false, false, false, false, false, false, false, false, false, false, false, false] rfl rfl (any_of HT_.out (by kernel_rfl)) (fun _ _ _ h => h) (Or.inl ⟨by rfl, ?_⟩) ?_ ?_
   rotate_left
   ·intro w'
    go_simp
    with_reducible rfl
   rotate_left
   ·simp only [Act.put, List.setIfInBounds_toArray, List.set_cons_zero, List.set_cons_succ, i64_w, i32_w]
    rfl
   refine pure_ (i := 7) (N := some 16) (v := ?_) (a' := ?_) #[true, true, true, true, true, true, true, true, false, false, false, false, false, false, false, false, false, false, false, false] rfl rfl (any_of HT_.out (by kernel_rfl)) (fun _ _ _ h => h) (Or.inl ⟨by rfl, ?_⟩) ?_ ?_
   rotate_left
   ·intro w'
    go_simp
    with_reducible rfl
   rotate_left
   ·simp only [Act.put, List.setIfInBounds_toArray, List.set_cons_zero, List.set_cons_succ, i64_w, i32_w]
    rfl
   refine take_ (i := 8) (N := some 17) (v := ?_) (a' := ?_) #[true, true, true, true, true, true, true, true, true, false, false, false, false, false, false, false, false, false, false, false] rfl rfl (take_ofW HT_.out HW_.out (by kernel_rfl)) (fun _ _ _ h => h) (Or.inl ⟨by rfl, ?_⟩) hHeld ?_ ?_
   rotate_left
   ·rintro w' ⟨s0, s1, s2, s3, s4, s5, s6, s7, s8, s9, s10, s11⟩
    go_simp
    with_reducible rfl
   rotate_left
   ·simp only [Act.put, List.setIfInBounds_toArray, List.set_cons_zero, List.set_cons_succ, i64_w, i32_w]
    rfl
   refine take_ (i := 9) (N := some 18) (v := ?_) (a' := ?_) #[true, true, true, true, true, true, true, true, true, true, false, false, false, false, false, false, false, false, false, false] rfl rfl (take_ofW HT_.out HW_.out (by kernel_rfl)) (fun _ _ _ h => h) (Or.inl ⟨by rfl, ?_⟩) hHeld ?_ ?_
   rotate_left
   ·rintro w' ⟨s0, s1, s2, s3, s4, s5, s6, s7, s8, s9, s10, s11⟩
    go_simp
    with_reducible rfl
   rotate_left
   ·simp only [Act.put, List.setIfInBounds_toArray, List.set_cons_zero, List.set_cons_succ, i64_w, i32_w]
    rfl
   refine take_ (i := 11) (N := some 20) (v := ?_) (a' := ?_) #[true, true, true, true, true, true, true, true, true, true, false, true, false, false, false, false, false, false, false, false] rfl rfl (take_ofW HT_.out HW_.out (by kernel_rfl)) (fun _ _ _ h => h) (Or.inl ⟨by rfl, ?_⟩) hHeld ?_ ?_
   rotate_left
   ·rintro w' ⟨s0, s1, s2, s3, s4, s5, s6, s7, s8, s9, s10, s11⟩
    go_simp
    with_reducible rfl
   rotate_left
   ·simp only [Act.put, List.setIfInBounds_toArray, List.set_cons_zero, List.set_cons_succ, i64_w, i32_w]
    rfl
   refine take_ (i := 12) (N := some 21) (v := ?_) (a' := ?_) #[true, true, true, true, true, true, true, true, true, true, false, true, true, false, false, false, false, false, false, false] rfl rfl (take_ofW HT_.out HW_.out (by kernel_rfl)) (fun _ _ _ h => h) (Or.inl ⟨by rfl, ?_⟩) hHeld ?_ ?_
   rotate_left
   ·rintro w' ⟨s0, s1, s2, s3, s4, s5, s6, s7, s8, s9, s10, s11⟩
    go_simp
    with_reducible rfl
   rotate_left
   ·simp only [Act.put, List.setIfInBounds_toArray, List.set_cons_zero, List.set_cons_succ, i64_w, i32_w]
    rfl
   refine one_ (i := 10) (N := some 19) #[true, true, true, true, true, true, true, true, true, true, true, true, true, false, false, false, false, false, false, false] rfl rfl (one_of HT_.out (by kernel_rfl)) (by decide) (fun K hK => ?_)
   refine goes_ Try.func21 (by kernel_rfl) rfl #[.agg #[.int .i64 a0_0, .int .i64 a0_1, .int .i64 a0_2], .agg #[.int .i64 a1_0, .int .i64 a1_1, .int .i64 a1_2]] (by rfl) rfl rfl (by (try simp only [List.map_toArray, List.map_cons, List.map_nil]); first | done | rfl | (simp only [List.length_drop, List.length_take]; rfl)) ?_
   with_reducible refine (treelabel_Precedes.calls a0_0 a0_1 a0_2 a1_0 a1_1 a1_2 t313 _ A6.out).mono ?_
   rintro e w45 ⟨rfl, hb⟩
   refine ⟨_, rfl, ?_⟩
   have n0_ := Aside0.mk (blk_below (g := gb307) (o := .cells #[.int .i64 a0_0, .int .i64 a0_1, .int .i64 a0_2] 41 (0, 0)) (by (with_reducible repeat (first | refine blk_drewN ?_ _ | refine blk_drew ?_ | refine blk_alloc ?_ _)); exact BK307.out) hb)
   have n1_ := Aside0.mk (blk_below (g := gb308) (o := .cells #[.int .i64 a1_0, .int .i64 a1_1, .int .i64 a1_2] 41 (0, 0)) (by (with_reducible repeat (first | refine blk_drewN ?_ _ | refine blk_drew ?_ | refine blk_alloc ?_ _)); exact BK308.out) hb)
   have n2_ := Aside0.mk (blk_below (g := gb309) (o := .cells #[.int .i64 a0_0, .int .i64 a0_1, .int .i64 a0_2] 43 (0, 0)) (by (with_reducible repeat (first | refine blk_drewN ?_ _ | refine blk_drew ?_ | refine blk_alloc ?_ _)); exact BK309.out) hb)
   have n3_ := Aside0.mk (blk_below (g := gb310) (o := .cells #[.int .i64 a1_0, .int .i64 a1_1, .int .i64 a1_2] 43 (0, 0)) (by (with_reducible repeat (first | refine blk_drewN ?_ _ | refine blk_drew ?_ | refine blk_alloc ?_ _)); exact BK310.out) hb)
   have n4_ := Aside0.mk (below_step (by repeat (first | (with_reducible first | exact HB.out | apply below_alloc | apply pw_below_drewN | apply below_drew1 | refine below_set ?_ GE307.out | refine below_set ?_ GE308.out | refine below_set ?_ GE309.out | refine below_set ?_ GE310.out) | exact HB.out)) hb)
   clear BK307
   clear BK308
   clear BK309
   clear BK310
   clear HB
   have BK307 := n0_
   have BK308 := n1_
   have BK309 := n2_
   have BK310 := n3_
   have HB := n4_
   clear n0_ n1_ n2_ n3_ n4_
   (try clear hb)
   (try clear hb2)
   (try clear hk)
   (try clear hi)
   refine hK.out _ _ ⟨(blk_cell BK307.out 0).trans rfl, (blk_cell BK307.out 1).trans rfl, (blk_cell BK307.out 2).trans rfl, (blk_cell BK308.out 0).trans rfl, (blk_cell BK308.out 1).trans rfl, (blk_cell BK308.out 2).trans rfl, (blk_cell BK309.out 0).trans rfl, (blk_cell BK309.out 1).trans rfl, (blk_cell BK309.out 2).trans rfl, (blk_cell BK310.out 0).trans rfl, (blk_cell BK310.out 1).trans rfl, (blk_cell BK310.out 2).trans rfl⟩ (fun hHeld => ?_)
   clear hK K
   refine norm_ (a' := ?_) ?_ ?_
   rotate_left
   ·show Act.put _ (some 19) _ = _
    simp only [Act.put, List.setIfInBounds_toArray, List.set_cons_zero, List.set_cons_succ, i64_w, i32_w]
    rfl
   refine one_ (i := 13) (N := some 22) #[true, true, true, true, true, true, true, true, true, true, true, true, true, true, false, false, false, false, false, false] rfl rfl (one_of HT_.out (by kernel_rfl)) (by decide) (fun K hK => ?_)
   refine goes_ Try.func23 (by kernel_rfl) rfl #[.agg #[.int .i64 a0_0, .int .i64 a0_1, .int .i64 a0_2], .agg #[.int .i64 a1_0, .int .i64 a1_1, .int .i64 a1_2]] (by rfl) rfl rfl (by (try simp only [List.map_toArray, List.map_cons, List.map_nil]); first | done | rfl | (simp only [List.length_drop, List.length_take]; rfl)) ?_
   with_reducible refine (corporaref10_Precedes.calls a0_0 a0_1 a0_2 a1_0 a1_1 a1_2 t314 _ A7.out).mono ?_
   rintro e w46 ⟨rfl, hb⟩
   refine ⟨_, rfl, ?_⟩
   have n0_ := Aside0.mk (blk_below (g := gb307) (o := .cells #[.int .i64 a0_0, .int .i64 a0_1, .int .i64 a0_2] 41 (0, 0)) (by (with_reducible repeat (first | refine blk_drewN ?_ _ | refine blk_drew ?_ | refine blk_alloc ?_ _)); exact BK307.out) hb)
   have n1_ := Aside0.mk (blk_below (g := gb308) (o := .cells #[.int .i64 a1_0, .int .i64 a1_1, .int .i64 a1_2] 41 (0, 0)) (by (with_reducible repeat (first | refine blk_drewN ?_ _ | refine blk_drew ?_ | refine blk_alloc ?_ _)); exact BK308.out) hb)
   have n2_ := Aside0.mk (blk_below (g := gb309) (o := .cells #[.int .i64 a0_0, .int .i64 a0_1, .int .i64 a0_2] 43 (0, 0)) (by (with_reducible repeat (first | refine blk_drewN ?_ _ | refine blk_drew ?_ | refine blk_alloc ?_ _)); exact BK309.out) hb)
   have n3_ := Aside0.mk (blk_below (g := gb310) (o := .cells #[.int .i64 a1_0, .int .i64 a1_1, .int .i64 a1_2] 43 (0, 0)) (by (with_reducible repeat (first | refine blk_drewN ?_ _ | refine blk_drew ?_ | refine blk_alloc ?_ _)); exact BK310.out) hb)
   have n4_ := Aside0.mk (below_step (by repeat (first | (with_reducible first | exact HB.out | apply below_alloc | apply pw_below_drewN | apply below_drew1 | refine below_set ?_ GE307.out | refine below_set ?_ GE308.out | refine below_set ?_ GE309.out | refine below_set ?_ GE310.out) | exact HB.out)) hb)
   clear BK307
   clear BK308
   clear BK309
   clear BK310
   clear HB
   have BK307 := n0_
   have BK308 := n1_
   have BK309 := n2_
   have BK310 := n3_
   have HB := n4_
   clear n0_ n1_ n2_ n3_ n4_
   (try clear hb)
   (try clear hb2)
   (try clear hk)
   (try clear hi)
   refine hK.out _ _ ⟨(blk_cell BK307.out 0).trans rfl, (blk_cell BK307.out 1).trans rfl, (blk_cell BK307.out 2).trans rfl, (blk_cell BK308.out 0).trans rfl, (blk_cell BK308.out 1).trans rfl, (blk_cell BK308.out 2).trans rfl, (blk_cell BK309.out 0).trans rfl, (blk_cell BK309.out 1).trans rfl, (blk_cell BK309.out 2).trans rfl, (blk_cell BK310.out 0).trans rfl, (blk_cell BK310.out 1).trans rfl, (blk_cell BK310.out 2).trans rfl⟩ (fun hHeld => ?_)
   clear hK K
   refine norm_ (a' := ?_) ?_ ?_
   rotate_left
   ·show Act.put _ (some 22) _ = _
    simp only [Act.put, List.setIfInBounds_toArray, List.set_cons_zero, List.set_cons_succ, i64_w, i32_w]
    rfl
   refine pure_ (i := 14) (N := some 23) (v := ?_) (a' := ?_) #[true, true, true, true, true, true, true, true, true, true, true, true, true, true, true, false, false, false, false, false] rfl rfl (any_of HT_.out (by kernel_rfl)) (fun _ _ _ h => h) (Or.inl ⟨by rfl, ?_⟩) ?_ ?_
   rotate_left
   ·intro w'
    go_simp
    with_reducible rfl
   rotate_left
   ·simp only [Act.put, List.setIfInBounds_toArray, List.set_cons_zero, List.set_cons_succ, i64_w, i32_w]
    rfl
   refine pure_ (i := 15) (N := some 24) (v := ?_) (a' := ?_) #[true, true, true, true, true, true, true, true, true, true, true, true, true, true, true, true, false, false, false, false] rfl rfl (any_of HT_.out (by kernel_rfl)) (fun _ _ _ h => h) (Or.inl ⟨by rfl, ?_⟩) ?_ ?_
   rotate_left
   ·intro w'
    go_simp
    with_reducible rfl
   rotate_left
   ·simp only [Act.put, List.setIfInBounds_toArray, List.set_cons_zero, List.set_cons_succ, i64_w, i32_w]
    rfl
   refine pure_ (i := 16) (N := some 25) (v := ?_) (a' := ?_) #[true, true, true, true, true, true, true, true, true, true, true, true, true, true, true, true, true, false, false, false] rfl rfl (any_of HT_.out (by kernel_rfl)) (fun _ _ _ h => h) (Or.inl ⟨by rfl, ?_⟩) ?_ ?_
   rotate_left
   ·intro w'
    go_simp
    with_reducible rfl
   rotate_left
   ·simp only [Act.put, List.setIfInBounds_toArray, List.set_cons_zero, List.set_cons_succ, i64_w, i32_w]
    rfl
   refine pure_ (i := 17) (N := some 26) (v := undef) (a' := ?_) #[true, true, true, true, true, true, true, true, true, true, true, true, true, true, true, true, true, true, false, false] rfl rfl (any_of HT_.out (by kernel_rfl)) (fun _ _ _ h => h) (Or.inr ⟨by rfl, rfl⟩) ?_ ?_
   rotate_left
   ·simp only [Act.put, List.setIfInBounds_toArray, List.set_cons_zero, List.set_cons_succ, i64_w, i32_w]
    rfl
   refine pure_ (i := 18) (N := some 27) (v := ?_) (a' := ?_) #[true, true, true, true, true, true, true, true, true, true, true, true, true, true, true, true, true, true, true, false] rfl rfl (any_of HT_.out (by kernel_rfl)) (fun _ _ _ h => h) (Or.inl ⟨by rfl, ?_⟩) ?_ ?_
   rotate_left
   ·intro w'
    go_simp
    with_reducible rfl
   rotate_left
   ·simp only [Act.put, List.setIfInBounds_toArray, List.set_cons_zero, List.set_cons_succ, i64_w, i32_w]
    rfl
   refine pure_ (i := 19) (N := some 4) (v := ?_) (a' := ?_) #[true, true, true, true, true, true, true, true, true, true, true, true, true, true, true, true, true, true, true, true] rfl rfl (any_of HT_.out (by kernel_rfl)) (fun _ _ _ h => h) (Or.inl ⟨by rfl, ?_⟩) ?_ ?_
   rotate_left
   ·intro w'
    go_simp
    with_reducible rfl
   rotate_left
   ·simp only [Act.put, List.setIfInBounds_toArray, List.set_cons_zero, List.set_cons_succ, i64_w, i32_w]
    rfl
   refine done_ (done_of HT_.out (by kernel_rfl)) ?_
   try go_wp2
   go_ret
   exact ⟨by first | rfl | (simp [errW_none, errW_some] <;> rfl) | (simp [*, errW_none, errW_some] <;> rfl), by repeat (first | (with_reducible first | exact HB.out | apply below_alloc | apply pw_below_drewN | apply below_drew1 | refine below_set ?_ GE307.out | refine below_set ?_ GE308.out | refine below_set ?_ GE309.out | refine below_set ?_ GE310.out) | exact HB.out)⟩
 ·rw [if_neg c5] at H
  have c5b0 : (t311 == t312) = false := by simpa using c5
  (try (have c5b1 : decide (t311 = t312) = false := by simpa using c5))
  (try (have c5b2 : (t311 == t312) = false := by simpa using c5))
  (try (have c5b3 : ¬ (t311 = t312) := by simpa using c5))
  clear c5
  obtain rfl := Option.some.inj H
  go_enter Try.func7, Try.ntmps7
  try go_wp2_with (first | ((with_reducible refine gate_dst (N := 2) rfl ?_); refine box_event ?hg (N := 2) ?hd (cs := #[.int .i64 a0_0, .int .i64 a0_1, .int .i64 a0_2]) (t := 41) ?hr ?_; (case hd => rfl); (case hg => rfl); (case hr => first | (go_simp; done) | (go_simp; rfl)); intro gb307 hg w47 hbox hb; have n0_ := Aside0.mk (below_step (by repeat (first | (with_reducible first | exact HB.out | apply below_alloc | apply pw_below_drewN | apply below_drew1) | exact HB.out)) hb); have n1_ := Aside0.mk (hbox); have n2_ := Aside0.mk ((by rw [hg]; exact (below_size (by repeat (first | (with_reducible first | exact HB.out | apply below_alloc | apply pw_below_drewN | apply below_drew1) | exact HB.out))) : w.heap.size ≤ gb307)); have n3_ := Aside0.mk ((by rw [hg]; exact (below_size (by repeat (first | (with_reducible first | exact HB.out | apply below_alloc | apply pw_below_drewN | apply below_drew1) | exact HB.out))) : w.heap.size ≤ gb307)); clear HB; have HB := n0_; have BK307 := n1_; have GW307 := n2_; have GE307 := n3_; clear n0_ n1_ n2_ n3_; clear hb hbox hg) | ((with_reducible refine gate_dst (N := 3) rfl ?_); refine box_event ?hg (N := 3) ?hd (cs := #[.int .i64 a1_0, .int .i64 a1_1, .int .i64 a1_2]) (t := 41) ?hr ?_; (case hd => rfl); (case hg => rfl); (case hr => first | (go_simp; done) | (go_simp; rfl)); intro gb308 hg w48 hbox hb; have n0_ := Aside0.mk (blk_below (g := gb307) (o := .cells #[.int .i64 a0_0, .int .i64 a0_1, .int .i64 a0_2] 41 (0, 0)) (by (with_reducible repeat (first | refine blk_drewN ?_ _ | refine blk_drew ?_ | refine blk_alloc ?_ _)); exact BK307.out) hb); have n1_ := Aside0.mk (below_step (by repeat (first | (with_reducible first | exact HB.out | apply below_alloc | apply pw_below_drewN | apply below_drew1 | refine below_set ?_ GE307.out) | exact HB.out)) hb); have n2_ := Aside0.mk (hbox); have n3_ := Aside0.mk ((by rw [hg]; exact (below_size (by repeat (first | (with_reducible first | exact HB.out | apply below_alloc | apply pw_below_drewN | apply below_drew1 | refine below_set ?_ GE307.out) | exact HB.out))) : w.heap.size ≤ gb308)); have n4_ := Aside0.mk ((by rw [hg]; exact (below_size (by repeat (first | (with_reducible first | exact HB.out | apply below_alloc | apply pw_below_drewN | apply below_drew1 | refine below_set ?_ GE307.out) | exact HB.out))) : w.heap.size ≤ gb308)); have n5_ := Aside0.mk ((by rw [hg]; exact Nat.ne_of_lt (blk_lt (g := gb307) (o := .cells #[.int .i64 a0_0, .int .i64 a0_1, .int .i64 a0_2] 41 (0, 0)) (by (with_reducible repeat (first | refine blk_drewN ?_ _ | refine blk_drew ?_ | refine blk_alloc ?_ _)); exact BK307.out)) : gb307 ≠ gb308)); have n6_ := Aside0.mk ((by rw [hg]; exact Nat.ne_of_gt (blk_lt (g := gb307) (o := .cells #[.int .i64 a0_0, .int .i64 a0_1, .int .i64 a0_2] 41 (0, 0)) (by (with_reducible repeat (first | refine blk_drewN ?_ _ | refine blk_drew ?_ | refine blk_alloc ?_ _)); exact BK307.out)) : gb308 ≠ gb307)); clear BK307; clear HB; have BK307 := n0_; have HB := n1_; have BK308 := n2_; have GW308 := n3_; have GE308 := n4_; have NB307_308 := n5_; have NB308_307 := n6_; clear n0_ n1_ n2_ n3_ n4_ n5_ n6_; clear hb hbox hg))
  have n0_ := Aside0.mk (blk_drew BK307.out)
  have n1_ := Aside0.mk (blk_drew BK308.out)
  have n2_ := Aside0.mk (below_drew1 HB.out)
  clear BK307
  clear BK308
  clear HB
  have BK307 := n0_
  have BK308 := n1_
  have HB := n2_
  clear n0_ n1_ n2_
  refine start_ (n := 6) (S := fun w' => w'.cell? ⟨gb307, 0, none⟩ = some (.int .i64 a0_0) ∧ w'.cell? ⟨gb307, 1, none⟩ = some (.int .i64 a0_1) ∧ w'.cell? ⟨gb307, 2, none⟩ = some (.int .i64 a0_2) ∧ w'.cell? ⟨gb308, 0, none⟩ = some (.int .i64 a1_0) ∧ w'.cell? ⟨gb308, 1, none⟩ = some (.int .i64 a1_1) ∧ w'.cell? ⟨gb308, 2, none⟩ = some (.int .i64 a1_2)) (ds := []) #[false, false, false, false, false, false] (by kernel_rfl) rfl rfl ⟨(blk_cell BK307.out 0).trans rfl, (blk_cell BK307.out 1).trans rfl, (blk_cell BK307.out 2).trans rfl, (blk_cell BK308.out 0).trans rfl, (blk_cell BK308.out 1).trans rfl, (blk_cell BK308.out 2).trans rfl⟩ (fun hHeld => ?_)
  generalize w48.drew = w49 at BK307 BK308 HB hHeld ⊢
  refine take_ (i := 0) (N := some 7) (v := ?_) (a' := ?_) #[true, false, false, false, false, false] rfl rfl (by kernel_rfl) (fun _ _ _ h => h) (Or.inl ⟨by rfl, ?_⟩) hHeld ?_ ?_
  rotate_left
  ·rintro w' ⟨s0, s1, s2, s3, s4, s5⟩
   go_simp
   with_reducible rfl
  rotate_left
  ·simp only [Act.put, List.setIfInBounds_toArray, List.set_cons_zero, List.set_cons_succ, i64_w, i32_w]
   rfl
  refine take_ (i := 1) (N := some 8) (v := ?_) (a' := ?_) #[true, true, false, false, false, false] rfl rfl (by kernel_rfl) (fun _ _ _ h => h) (Or.inl ⟨by rfl, ?_⟩) hHeld ?_ ?_
  rotate_left
  ·rintro w' ⟨s0, s1, s2, s3, s4, s5⟩
   go_simp
   with_reducible rfl
  rotate_left
  ·simp only [Act.put, List.setIfInBounds_toArray, List.set_cons_zero, List.set_cons_succ, i64_w, i32_w]
   rfl
  refine join_ (σ := Nat × Nat) 2 #[true, true, true, true, false, false] (fun s_ => [(5, .pointer (some ⟨s_.1, 0, none⟩)), (6, .pointer (some ⟨s_.2, 0, none⟩))]) (fun s_ w' => (w'.cell? ⟨gb307, 0, none⟩ = some (.int .i64 a0_0) ∧ w'.cell? ⟨gb307, 1, none⟩ = some (.int .i64 a0_1) ∧ w'.cell? ⟨gb307, 2, none⟩ = some (.int .i64 a0_2) ∧ w'.cell? ⟨gb308, 0, none⟩ = some (.int .i64 a1_0) ∧ w'.cell? ⟨gb308, 1, none⟩ = some (.int .i64 a1_1) ∧ w'.cell? ⟨gb308, 2, none⟩ = some (.int .i64 a1_2)) ∧ (w'.heap[gb307]? = some (.cells #[.int .i64 a0_0, .int .i64 a0_1, .int .i64 a0_2] 41 (0, 0))) ∧ (w'.heap[gb308]? = some (.cells #[.int .i64 a1_0, .int .i64 a1_1, .int .i64 a1_2] 41 (0, 0))) ∧ (w'.heap[s_.1]? = some (.cells #[.int .i64 0, .int .i64 0, .int .i64 0] 43 (0, 0))) ∧ (w'.heap[s_.2]? = some (.cells #[.int .i64 0, .int .i64 0, .int .i64 0] 43 (0, 0))) ∧ (w.heap.size ≤ s_.1) ∧ (w.heap.size ≤ s_.1) ∧ (gb307 ≠ s_.1) ∧ (s_.1 ≠ gb307) ∧ (gb308 ≠ s_.1) ∧ (s_.1 ≠ gb308) ∧ (s_.2 ≠ s_.1) ∧ (s_.1 ≠ s_.2) ∧ (w.heap.size ≤ s_.2) ∧ (w.heap.size ≤ s_.2) ∧ (gb307 ≠ s_.2) ∧ (s_.2 ≠ gb307) ∧ (gb308 ≠ s_.2) ∧ (s_.2 ≠ gb308) ∧ (Below w.heap.size w w')) ?_ ?_
  rotate_left
  ·intro hCont
   refine two_ (i := 2) (j := 3) (Ni := some 5) (Nj := some 6) #[true, true, true, false, false, false] #[true, true, false, true, false, false] rfl rfl rfl rfl (by kernel_rfl) (by decide) (by decide) (fun K hK => ?_) (fun K hK => ?_)
   ·skip
    refine box_step ?hg (N := 5) ?hd (cs := #[.int .i64 0, .int .i64 0, .int .i64 0]) (t := 43) ?hr ?_; (case hd => rfl); (case hg => rfl); (case hr => first | (go_simp; done) | (go_simp; rfl))
    intro gb309 hg w50 hbox hb
    have n0_ := Aside0.mk (blk_below (g := gb307) (o := .cells #[.int .i64 a0_0, .int .i64 a0_1, .int .i64 a0_2] 41 (0, 0)) (by (with_reducible repeat (first | refine blk_drewN ?_ _ | refine blk_drew ?_ | refine blk_alloc ?_ _)); exact BK307.out) hb)
    have n1_ := Aside0.mk (blk_below (g := gb308) (o := .cells #[.int .i64 a1_0, .int .i64 a1_1, .int .i64 a1_2] 41 (0, 0)) (by (with_reducible repeat (first | refine blk_drewN ?_ _ | refine blk_drew ?_ | refine blk_alloc ?_ _)); exact BK308.out) hb)
    have n2_ := Aside0.mk (below_step (by repeat (first | (with_reducible first | exact HB.out | apply below_alloc | apply pw_below_drewN | apply below_drew1 | refine below_set ?_ GE307.out | refine below_set ?_ GE308.out) | exact HB.out)) hb)
    have n3_ := Aside0.mk (hbox)
    have n4_ := Aside0.mk ((by rw [hg]; exact (below_size (by repeat (first | (with_reducible first | exact HB.out | apply below_alloc | apply pw_below_drewN | apply below_drew1 | refine below_set ?_ GE307.out | refine below_set ?_ GE308.out) | exact HB.out))) : w.heap.size ≤ gb309))
    have n5_ := Aside0.mk ((by rw [hg]; exact (below_size (by repeat (first | (with_reducible first | exact HB.out | apply below_alloc | apply pw_below_drewN | apply below_drew1 | refine below_set ?_ GE307.out | refine below_set ?_ GE308.out) | exact HB.out))) : w.heap.size ≤ gb309))
    have n6_ := Aside0.mk ((by rw [hg]; exact Nat.ne_of_lt (blk_lt (g := gb307) (o := .cells #[.int .i64 a0_0, .int .i64 a0_1, .int .i64 a0_2] 41 (0, 0)) (by (with_reducible repeat (first | refine blk_drewN ?_ _ | refine blk_drew ?_ | refine blk_alloc ?_ _)); exact BK307.out)) : gb307 ≠ gb309))
    have n7_ := Aside0.mk ((by rw [hg]; exact Nat.ne_of_gt (blk_lt (g := gb307) (o := .cells #[.int .i64 a0_0, .int .i64 a0_1, .int .i64 a0_2] 41 (0, 0)) (by (with_reducible repeat (first | refine blk_drewN ?_ _ | refine blk_drew ?_ | refine blk_alloc ?_ _)); exact BK307.out)) : gb309 ≠ gb307))
    have n8_ := Aside0.mk ((by rw [hg]; exact Nat.ne_of_lt (blk_lt (g := gb308) (o := .cells #[.int .i64 a1_0, .int .i64 a1_1, .int .i64 a1_2] 41 (0, 0)) (by (with_reducible repeat (first | refine blk_drewN ?_ _ | refine blk_drew ?_ | refine blk_alloc ?_ _)); exact BK308.out)) : gb308 ≠ gb309))
    have n9_ := Aside0.mk ((by rw [hg]; exact Nat.ne_of_gt (blk_lt (g := gb308) (o := .cells #[.int .i64 a1_0, .int .i64 a1_1, .int .i64 a1_2] 41 (0, 0)) (by (with_reducible repeat (first | refine blk_drewN ?_ _ | refine blk_drew ?_ | refine blk_alloc ?_ _)); exact BK308.out)) : gb309 ≠ gb308))
    clear BK307
    clear BK308
    clear HB
    have BK307 := n0_
    have BK308 := n1_
    have HB := n2_
    have BK309 := n3_
    have GW309 := n4_
    have GE309 := n5_
    have NB307_309 := n6_
    have NB309_307 := n7_
    have NB308_309 := n8_
    have NB309_308 := n9_
    clear n0_ n1_ n2_ n3_ n4_ n5_ n6_ n7_ n8_ n9_
    clear hb hbox hg
    refine hK.out _ _ ⟨(blk_cell BK307.out 0).trans rfl, (blk_cell BK307.out 1).trans rfl, (blk_cell BK307.out 2).trans rfl, (blk_cell BK308.out 0).trans rfl, (blk_cell BK308.out 1).trans rfl, (blk_cell BK308.out 2).trans rfl⟩ (fun hHeld => ?_)
    clear hK K
    refine norm_ (a' := ?_) ?_ ?_
    rotate_left
    ·show Act.put _ (some 5) _ = _
     simp only [Act.put, List.setIfInBounds_toArray, List.set_cons_zero, List.set_cons_succ, i64_w, i32_w]
     rfl
    refine one_ (i := 3) (N := some 6) #[true, true, true, true, false, false] rfl rfl (by kernel_rfl) (by decide) (fun K hK => ?_)
    refine box_step ?hg (N := 6) ?hd (cs := #[.int .i64 0, .int .i64 0, .int .i64 0]) (t := 43) ?hr ?_; (case hd => rfl); (case hg => rfl); (case hr => first | (go_simp; done) | (go_simp; rfl))
    intro gb310 hg w51 hbox hb
    have n0_ := Aside0.mk (blk_below (g := gb307) (o := .cells #[.int .i64 a0_0, .int .i64 a0_1, .int .i64 a0_2] 41 (0, 0)) (by (with_reducible repeat (first | refine blk_drewN ?_ _ | refine blk_drew ?_ | refine blk_alloc ?_ _)); exact BK307.out) hb)
    have n1_ := Aside0.mk (blk_below (g := gb308) (o := .cells #[.int .i64 a1_0, .int .i64 a1_1, .int .i64 a1_2] 41 (0, 0)) (by (with_reducible repeat (first | refine blk_drewN ?_ _ | refine blk_drew ?_ | refine blk_alloc ?_ _)); exact BK308.out) hb)
    have n2_ := Aside0.mk (blk_below (g := gb309) (o := .cells #[.int .i64 0, .int .i64 0, .int .i64 0] 43 (0, 0)) (by (with_reducible repeat (first | refine blk_drewN ?_ _ | refine blk_drew ?_ | refine blk_alloc ?_ _)); exact BK309.out) hb)
    have n3_ := Aside0.mk (below_step (by repeat (first | (with_reducible first | exact HB.out | apply below_alloc | apply pw_below_drewN | apply below_drew1 | refine below_set ?_ GE307.out | refine below_set ?_ GE308.out | refine below_set ?_ GE309.out) | exact HB.out)) hb)
    have n4_ := Aside0.mk (hbox)
    have n5_ := Aside0.mk ((by rw [hg]; exact (below_size (by repeat (first | (with_reducible first | exact HB.out | apply below_alloc | apply pw_below_drewN | apply below_drew1 | refine below_set ?_ GE307.out | refine below_set ?_ GE308.out | refine below_set ?_ GE309.out) | exact HB.out))) : w.heap.size ≤ gb310))
    have n6_ := Aside0.mk ((by rw [hg]; exact (below_size (by repeat (first | (with_reducible first | exact HB.out | apply below_alloc | apply pw_below_drewN | apply below_drew1 | refine below_set ?_ GE307.out | refine below_set ?_ GE308.out | refine below_set ?_ GE309.out) | exact HB.out))) : w.heap.size ≤ gb310))
    have n7_ := Aside0.mk ((by rw [hg]; exact Nat.ne_of_lt (blk_lt (g := gb307) (o := .cells #[.int .i64 a0_0, .int .i64 a0_1, .int .i64 a0_2] 41 (0, 0)) (by (with_reducible repeat (first | refine blk_drewN ?_ _ | refine blk_drew ?_ | refine blk_alloc ?_ _)); exact BK307.out)) : gb307 ≠ gb310))
    have n8_ := Aside0.mk ((by rw [hg]; exact Nat.ne_of_gt (blk_lt (g := gb307) (o := .cells #[.int .i64 a0_0, .int .i64 a0_1, .int .i64 a0_2] 41 (0, 0)) (by (with_reducible repeat (first | refine blk_drewN ?_ _ | refine blk_drew ?_ | refine blk_alloc ?_ _)); exact BK307.out)) : gb310 ≠ gb307))
    have n9_ := Aside0.mk ((by rw [hg]; exact Nat.ne_of_lt (blk_lt (g := gb308) (o := .cells #[.int .i64 a1_0, .int .i64 a1_1, .int .i64 a1_2] 41 (0, 0)) (by (with_reducible repeat (first | refine blk_drewN ?_ _ | refine blk_drew ?_ | refine blk_alloc ?_ _)); exact BK308.out)) : gb308 ≠ gb310))
    have n10_ := Aside0.mk ((by rw [hg]; exact Nat.ne_of_gt (blk_lt (g := gb308) (o := .cells #[.int .i64 a1_0, .int .i64 a1_1, .int .i64 a1_2] 41 (0, 0)) (by (with_reducible repeat (first | refine blk_drewN ?_ _ | refine blk_drew ?_ | refine blk_alloc ?_ _)); exact BK308.out)) : gb310 ≠ gb308))
    have n11_ := Aside0.mk ((by rw [hg]; exact Nat.ne_of_lt (blk_lt (g := gb309) (o := .cells #[.int .i64 0, .int .i64 0, .int .i64 0] 43 (0, 0)) (by (with_reducible repeat (first | refine blk_drewN ?_ _ | refine blk_drew ?_ | refine blk_alloc ?_ _)); exact BK309.out)) : gb309 ≠ gb310))
    have n12_ := Aside0.mk ((by rw [hg]; exact Nat.ne_of_gt (blk_lt (g := gb309) (o := .cells #[.int .i64 0, .int .i64 0, .int .i64 0] 43 (0, 0)) (by (with_reducible repeat (first | refine blk_drewN ?_ _ | refine blk_drew ?_ | refine blk_alloc ?_ _)); exact BK309.out)) : gb310 ≠ gb309))
    clear BK307
    clear BK308
    clear BK309
    clear HB
    have BK307 := n0_
    have BK308 := n1_
    have BK309 := n2_
    have HB := n3_
    have BK310 := n4_
    have GW310 := n5_
    have GE310 := n6_
    have NB307_310 := n7_
    have NB310_307 := n8_
    have NB308_310 := n9_
    have NB310_308 := n10_
    have NB309_310 := n11_
    have NB310_309 := n12_
    clear n0_ n1_ n2_ n3_ n4_ n5_ n6_ n7_ n8_ n9_ n10_ n11_ n12_
    clear hb hbox hg
    refine hK.out _ _ ⟨(blk_cell BK307.out 0).trans rfl, (blk_cell BK307.out 1).trans rfl, (blk_cell BK307.out 2).trans rfl, (blk_cell BK308.out 0).trans rfl, (blk_cell BK308.out 1).trans rfl, (blk_cell BK308.out 2).trans rfl⟩ (fun hHeld => ?_)
    clear hK K
    refine norm_ (a' := ?_) ?_ ?_
    rotate_left
    ·show Act.put _ (some 6) _ = _
     simp only [Act.put, List.setIfInBounds_toArray, List.set_cons_zero, List.set_cons_succ, i64_w, i32_w]
     rfl
    exact norm_ (by simp only [putAll, Act.put, List.setIfInBounds_toArray, List.set_cons_zero, List.set_cons_succ]) (hCont (gb309, gb310) _ ⟨hHeld, (by (with_reducible repeat (first | refine blk_drewN ?_ _ | refine blk_drew ?_ | refine blk_alloc ?_ _)); exact BK307.out), (by (with_reducible repeat (first | refine blk_drewN ?_ _ | refine blk_drew ?_ | refine blk_alloc ?_ _)); exact BK308.out), (by (with_reducible repeat (first | refine blk_drewN ?_ _ | refine blk_drew ?_ | refine blk_alloc ?_ _)); exact BK309.out), (by (with_reducible repeat (first | refine blk_drewN ?_ _ | refine blk_drew ?_ | refine blk_alloc ?_ _)); exact BK310.out), GW309.out, GE309.out, NB307_309.out, NB309_307.out, NB308_309.out, NB309_308.out, NB310_309.out, NB309_310.out, GW310.out, GE310.out, NB307_310.out, NB310_307.out, NB308_310.out, NB310_308.out, (by repeat (first | (with_reducible first | exact HB.out | apply below_alloc | apply pw_below_drewN | apply below_drew1 | refine below_set ?_ GE307.out | refine below_set ?_ GE308.out | refine below_set ?_ GE309.out | refine below_set ?_ GE310.out) | exact HB.out))⟩)
   ·skip
    refine box_step ?hg (N := 6) ?hd (cs := #[.int .i64 0, .int .i64 0, .int .i64 0]) (t := 43) ?hr ?_; (case hd => rfl); (case hg => rfl); (case hr => first | (go_simp; done) | (go_simp; rfl))
    intro gb310 hg w50 hbox hb
    have n0_ := Aside0.mk (blk_below (g := gb307) (o := .cells #[.int .i64 a0_0, .int .i64 a0_1, .int .i64 a0_2] 41 (0, 0)) (by (with_reducible repeat (first | refine blk_drewN ?_ _ | refine blk_drew ?_ | refine blk_alloc ?_ _)); exact BK307.out) hb)
    have n1_ := Aside0.mk (blk_below (g := gb308) (o := .cells #[.int .i64 a1_0, .int .i64 a1_1, .int .i64 a1_2] 41 (0, 0)) (by (with_reducible repeat (first | refine blk_drewN ?_ _ | refine blk_drew ?_ | refine blk_alloc ?_ _)); exact BK308.out) hb)
    have n2_ := Aside0.mk (below_step (by repeat (first | (with_reducible first | exact HB.out | apply below_alloc | apply pw_below_drewN | apply below_drew1 | refine below_set ?_ GE307.out | refine below_set ?_ GE308.out) | exact HB.out)) hb)
    have n3_ := Aside0.mk (hbox)
    have n4_ := Aside0.mk ((by rw [hg]; exact (below_size (by repeat (first | (with_reducible first | exact HB.out | apply below_alloc | apply pw_below_drewN | apply below_drew1 | refine below_set ?_ GE307.out | refine below_set ?_ GE308.out) | exact HB.out))) : w.heap.size ≤ gb310))
    have n5_ := Aside0.mk ((by rw [hg]; exact (below_size (by repeat (first | (with_reducible first | exact HB.out | apply below_alloc | apply pw_below_drewN | apply below_drew1 | refine below_set ?_ GE307.out | refine below_set ?_ GE308.out) | exact HB.out))) : w.heap.size ≤ gb310))
    have n6_ := Aside0.mk ((by rw [hg]; exact Nat.ne_of_lt (blk_lt (g := gb307) (o := .cells #[.int .i64 a0_0, .int .i64 a0_1, .int .i64 a0_2] 41 (0, 0)) (by (with_reducible repeat (first | refine blk_drewN ?_ _ | refine blk_drew ?_ | refine blk_alloc ?_ _)); exact BK307.out)) : gb307 ≠ gb310))
    have n7_ := Aside0.mk ((by rw [hg]; exact Nat.ne_of_gt (blk_lt (g := gb307) (o := .cells #[.int .i64 a0_0, .int .i64 a0_1, .int .i64 a0_2] 41 (0, 0)) (by (with_reducible repeat (first | refine blk_drewN ?_ _ | refine blk_drew ?_ | refine blk_alloc ?_ _)); exact BK307.out)) : gb310 ≠ gb307))
    have n8_ := Aside0.mk ((by rw [hg]; exact Nat.ne_of_lt (blk_lt (g := gb308) (o := .cells #[.int .i64 a1_0, .int .i64 a1_1, .int .i64 a1_2] 41 (0, 0)) (by (with_reducible repeat (first | refine blk_drewN ?_ _ | refine blk_drew ?_ | refine blk_alloc ?_ _)); exact BK308.out)) : gb308 ≠ gb310))
    have n9_ := Aside0.mk ((by rw [hg]; exact Nat.ne_of_gt (blk_lt (g := gb308) (o := .cells #[.int .i64 a1_0, .int .i64 a1_1, .int .i64 a1_2] 41 (0, 0)) (by (with_reducible repeat (first | refine blk_drewN ?_ _ | refine blk_drew ?_ | refine blk_alloc ?_ _)); exact BK308.out)) : gb310 ≠ gb308))
    clear BK307
    clear BK308
    clear HB
    have BK307 := n0_
    have BK308 := n1_
    have HB := n2_
    have BK310 := n3_
    have GW310 := n4_
    have GE310 := n5_
    have NB307_310 := n6_
    have NB310_307 := n7_
    have NB308_310 := n8_
    have NB310_308 := n9_
    clear n0_ n1_ n2_ n3_ n4_ n5_ n6_ n7_ n8_ n9_
    clear hb hbox hg
    refine hK.out _ _ ⟨(blk_cell BK307.out 0).trans rfl, (blk_cell BK307.out 1).trans rfl, (blk_cell BK307.out 2).trans rfl, (blk_cell BK308.out 0).trans rfl, (blk_cell BK308.out 1).trans rfl, (blk_cell BK308.out 2).trans rfl⟩ (fun hHeld => ?_)
    clear hK K
    refine norm_ (a' := ?_) ?_ ?_
    rotate_left
    ·show Act.put _ (some 6) _ = _
     simp only [Act.put, List.setIfInBounds_toArray, List.set_cons_zero, List.set_cons_succ, i64_w, i32_w]
     rfl
    refine one_ (i := 2) (N := some 5) #[true, true, true, true, false, false] rfl rfl (by kernel_rfl) (by decide) (fun K hK => ?_)
    refine box_step ?hg (N := 5) ?hd (cs := #[.int .i64 0, .int .i64 0, .int .i64 0]) (t := 43) ?hr ?_; (case hd => rfl); (case hg => rfl); (case hr => first | (go_simp; done) | (go_simp; rfl))
    intro gb309 hg w51 hbox hb
    have n0_ := Aside0.mk (blk_below (g := gb307) (o := .cells #[.int .i64 a0_0, .int .i64 a0_1, .int .i64 a0_2] 41 (0, 0)) (by (with_reducible repeat (first | refine blk_drewN ?_ _ | refine blk_drew ?_ | refine blk_alloc ?_ _)); exact BK307.out) hb)
    have n1_ := Aside0.mk (blk_below (g := gb308) (o := .cells #[.int .i64 a1_0, .int .i64 a1_1, .int .i64 a1_2] 41 (0, 0)) (by (with_reducible repeat (first | refine blk_drewN ?_ _ | refine blk_drew ?_ | refine blk_alloc ?_ _)); exact BK308.out) hb)
    have n2_ := Aside0.mk (blk_below (g := gb310) (o := .cells #[.int .i64 0, .int .i64 0, .int .i64 0] 43 (0, 0)) (by (with_reducible repeat (first | refine blk_drewN ?_ _ | refine blk_drew ?_ | refine blk_alloc ?_ _)); exact BK310.out) hb)
    have n3_ := Aside0.mk (below_step (by repeat (first | (with_reducible first | exact HB.out | apply below_alloc | apply pw_below_drewN | apply below_drew1 | refine below_set ?_ GE307.out | refine below_set ?_ GE308.out | refine below_set ?_ GE310.out) | exact HB.out)) hb)
    have n4_ := Aside0.mk (hbox)
    have n5_ := Aside0.mk ((by rw [hg]; exact (below_size (by repeat (first | (with_reducible first | exact HB.out | apply below_alloc | apply pw_below_drewN | apply below_drew1 | refine below_set ?_ GE307.out | refine below_set ?_ GE308.out | refine below_set ?_ GE310.out) | exact HB.out))) : w.heap.size ≤ gb309))
    have n6_ := Aside0.mk ((by rw [hg]; exact (below_size (by repeat (first | (with_reducible first | exact HB.out | apply below_alloc | apply pw_below_drewN | apply below_drew1 | refine below_set ?_ GE307.out | refine below_set ?_ GE308.out | refine below_set ?_ GE310.out) | exact HB.out))) : w.heap.size ≤ gb309))
    have n7_ := Aside0.mk ((by rw [hg]; exact Nat.ne_of_lt (blk_lt (g := gb307) (o := .cells #[.int .i64 a0_0, .int .i64 a0_1, .int .i64 a0_2] 41 (0, 0)) (by (with_reducible repeat (first | refine blk_drewN ?_ _ | refine blk_drew ?_ | refine blk_alloc ?_ _)); exact BK307.out)) : gb307 ≠ gb309))
    have n8_ := Aside0.mk ((by rw [hg]; exact Nat.ne_of_gt (blk_lt (g := gb307) (o := .cells #[.int .i64 a0_0, .int .i64 a0_1, .int .i64 a0_2] 41 (0, 0)) (by (with_reducible repeat (first | refine blk_drewN ?_ _ | refine blk_drew ?_ | refine blk_alloc ?_ _)); exact BK307.out)) : gb309 ≠ gb307))
    have n9_ := Aside0.mk ((by rw [hg]; exact Nat.ne_of_lt (blk_lt (g := gb308) (o := .cells #[.int .i64 a1_0, .int .i64 a1_1, .int .i64 a1_2] 41 (0, 0)) (by (with_reducible repeat (first | refine blk_drewN ?_ _ | refine blk_drew ?_ | refine blk_alloc ?_ _)); exact BK308.out)) : gb308 ≠ gb309))
    have n10_ := Aside0.mk ((by rw [hg]; exact Nat.ne_of_gt (blk_lt (g := gb308) (o := .cells #[.int .i64 a1_0, .int .i64 a1_1, .int .i64 a1_2] 41 (0, 0)) (by (with_reducible repeat (first | refine blk_drewN ?_ _ | refine blk_drew ?_ | refine blk_alloc ?_ _)); exact BK308.out)) : gb309 ≠ gb308))
    have n11_ := Aside0.mk ((by rw [hg]; exact Nat.ne_of_lt (blk_lt (g := gb310) (o := .cells #[.int .i64 0, .int .i64 0, .int .i64 0] 43 (0, 0)) (by (with_reducible repeat (first | refine blk_drewN ?_ _ | refine blk_drew ?_ | refine blk_alloc ?_ _)); exact BK310.out)) : gb310 ≠ gb309))
    have n12_ := Aside0.mk ((by rw [hg]; exact Nat.ne_of_gt (blk_lt (g := gb310) (o := .cells #[.int .i64 0, .int .i64 0, .int .i64 0] 43 (0, 0)) (by (with_reducible repeat (first | refine blk_drewN ?_ _ | refine blk_drew ?_ | refine blk_alloc ?_ _)); exact BK310.out)) : gb309 ≠ gb310))
    clear BK307
    clear BK308
    clear BK310
    clear HB
    have BK307 := n0_
    have BK308 := n1_
    have BK310 := n2_
    have HB := n3_
    have BK309 := n4_
    have GW309 := n5_
    have GE309 := n6_
    have NB307_309 := n7_
    have NB309_307 := n8_
    have NB308_309 := n9_
    have NB309_308 := n10_
    have NB310_309 := n11_
    have NB309_310 := n12_
    clear n0_ n1_ n2_ n3_ n4_ n5_ n6_ n7_ n8_ n9_ n10_ n11_ n12_
    clear hb hbox hg
    refine hK.out _ _ ⟨(blk_cell BK307.out 0).trans rfl, (blk_cell BK307.out 1).trans rfl, (blk_cell BK307.out 2).trans rfl, (blk_cell BK308.out 0).trans rfl, (blk_cell BK308.out 1).trans rfl, (blk_cell BK308.out 2).trans rfl⟩ (fun hHeld => ?_)
    clear hK K
    refine norm_ (a' := ?_) ?_ ?_
    rotate_left
    ·show Act.put _ (some 5) _ = _
     simp only [Act.put, List.setIfInBounds_toArray, List.set_cons_zero, List.set_cons_succ, i64_w, i32_w]
     rfl
    exact norm_ (by simp only [putAll, Act.put, List.setIfInBounds_toArray, List.set_cons_zero, List.set_cons_succ]) (hCont (gb309, gb310) _ ⟨hHeld, (by (with_reducible repeat (first | refine blk_drewN ?_ _ | refine blk_drew ?_ | refine blk_alloc ?_ _)); exact BK307.out), (by (with_reducible repeat (first | refine blk_drewN ?_ _ | refine blk_drew ?_ | refine blk_alloc ?_ _)); exact BK308.out), (by (with_reducible repeat (first | refine blk_drewN ?_ _ | refine blk_drew ?_ | refine blk_alloc ?_ _)); exact BK309.out), (by (with_reducible repeat (first | refine blk_drewN ?_ _ | refine blk_drew ?_ | refine blk_alloc ?_ _)); exact BK310.out), GW309.out, GE309.out, NB307_309.out, NB309_307.out, NB308_309.out, NB309_308.out, NB310_309.out, NB309_310.out, GW310.out, GE310.out, NB307_310.out, NB310_307.out, NB308_310.out, NB310_308.out, (by repeat (first | (with_reducible first | exact HB.out | apply below_alloc | apply pw_below_drewN | apply below_drew1 | refine below_set ?_ GE307.out | refine below_set ?_ GE308.out | refine below_set ?_ GE310.out | refine below_set ?_ GE309.out) | exact HB.out))⟩)
  rintro ⟨gb309, gb310⟩ w52 ⟨hS_, h0_, h1_, h2_, h3_, h4_, h5_, h6_, h7_, h8_, h9_, h10_, h11_, h12_, h13_, h14_, h15_, h16_, h17_, h18_⟩
  have n0_ : Aside0 (w52.heap[gb307]? = some (.cells #[.int .i64 a0_0, .int .i64 a0_1, .int .i64 a0_2] 41 (0, 0))) := ⟨h0_⟩
  have n1_ : Aside0 (w52.heap[gb308]? = some (.cells #[.int .i64 a1_0, .int .i64 a1_1, .int .i64 a1_2] 41 (0, 0))) := ⟨h1_⟩
  have n2_ : Aside0 (w52.heap[gb309]? = some (.cells #[.int .i64 0, .int .i64 0, .int .i64 0] 43 (0, 0))) := ⟨h2_⟩
  have n3_ : Aside0 (w52.heap[gb310]? = some (.cells #[.int .i64 0, .int .i64 0, .int .i64 0] 43 (0, 0))) := ⟨h3_⟩
  have n4_ : Aside0 (w.heap.size ≤ gb309) := ⟨h4_⟩
  have n5_ : Aside0 (w.heap.size ≤ gb309) := ⟨h5_⟩
  have n6_ : Aside0 (gb307 ≠ gb309) := ⟨h6_⟩
  have n7_ : Aside0 (gb309 ≠ gb307) := ⟨h7_⟩
  have n8_ : Aside0 (gb308 ≠ gb309) := ⟨h8_⟩
  have n9_ : Aside0 (gb309 ≠ gb308) := ⟨h9_⟩
  have n10_ : Aside0 (gb310 ≠ gb309) := ⟨h10_⟩
  have n11_ : Aside0 (gb309 ≠ gb310) := ⟨h11_⟩
  have n12_ : Aside0 (w.heap.size ≤ gb310) := ⟨h12_⟩
  have n13_ : Aside0 (w.heap.size ≤ gb310) := ⟨h13_⟩
  have n14_ : Aside0 (gb307 ≠ gb310) := ⟨h14_⟩
  have n15_ : Aside0 (gb310 ≠ gb307) := ⟨h15_⟩
  have n16_ : Aside0 (gb308 ≠ gb310) := ⟨h16_⟩
  have n17_ : Aside0 (gb310 ≠ gb308) := ⟨h17_⟩
  have n18_ : Aside0 (Below w.heap.size w w52) := ⟨h18_⟩
  clear BK307
  clear BK308
  clear HB
  clear h0_ h1_ h2_ h3_ h4_ h5_ h6_ h7_ h8_ h9_ h10_ h11_ h12_ h13_ h14_ h15_ h16_ h17_ h18_
  have BK307 := n0_
  have BK308 := n1_
  have BK309 := n2_
  have BK310 := n3_
  have GW309 := n4_
  have GE309 := n5_
  have NB307_309 := n6_
  have NB309_307 := n7_
  have NB308_309 := n8_
  have NB309_308 := n9_
  have NB310_309 := n10_
  have NB309_310 := n11_
  have GW310 := n12_
  have GE310 := n13_
  have NB307_310 := n14_
  have NB310_307 := n15_
  have NB308_310 := n16_
  have NB310_308 := n17_
  have HB := n18_
  clear n0_ n1_ n2_ n3_ n4_ n5_ n6_ n7_ n8_ n9_ n10_ n11_ n12_ n13_ n14_ n15_ n16_ n17_ n18_
  have hHeld : w52.cell? ⟨gb307, 0, none⟩ = some (.int .i64 a0_0) ∧ w52.cell? ⟨gb307, 1, none⟩ = some (.int .i64 a0_1) ∧ w52.cell? ⟨gb307, 2, none⟩ = some (.int .i64 a0_2) ∧ w52.cell? ⟨gb308, 0, none⟩ = some (.int .i64 a1_0) ∧ w52.cell? ⟨gb308, 1, none⟩ = some (.int .i64 a1_1) ∧ w52.cell? ⟨gb308, 2, none⟩ = some (.int .i64 a1_2) := hS_
  refine norm_ (a' := ?_) ?_ ?_
  rotate_left
  ·simp only [putAll, Act.put, List.setIfInBounds_toArray, List.set_cons_zero, List.set_cons_succ]
   rfl
  refine one_ (i := 4) (N := none) #[true, true, true, true, true, false] rfl rfl (by kernel_rfl) (by decide) (fun K hK => ?_)
  have hs53 : w52.cell? ⟨gb309, 0, none⟩ = some (.int .i64 0) := (blk_cell BK309.out 0).trans rfl
  have hfs53 := blk_frozen BK309.out 0
  have hns53_0 := NB307_309.out
  have hns53_1 := NB308_309.out
  have hns53_3 := NB310_309.out
  have hms53_0 := NB309_307.out
  have hms53_1 := NB309_308.out
  have hms53_3 := NB309_310.out
  have hs54 : w52.cell? ⟨gb309, 1, none⟩ = some (.int .i64 0) := (blk_cell BK309.out 1).trans rfl
  have hfs54 := blk_frozen BK309.out 1
  have hns54_0 := NB307_309.out
  have hns54_1 := NB308_309.out
  have hns54_3 := NB310_309.out
  have hms54_0 := NB309_307.out
  have hms54_1 := NB309_308.out
  have hms54_3 := NB309_310.out
  have hs55 : w52.cell? ⟨gb309, 2, none⟩ = some (.int .i64 0) := (blk_cell BK309.out 2).trans rfl
  have hfs55 := blk_frozen BK309.out 2
  have hns55_0 := NB307_309.out
  have hns55_1 := NB308_309.out
  have hns55_3 := NB310_309.out
  have hms55_0 := NB309_307.out
  have hms55_1 := NB309_308.out
  have hms55_3 := NB309_310.out
  refine skip_ (w1 := ?_) (by rfl) rfl ?_ ?_
  rotate_left
  ·go_simp
   rfl
  refine hK.out _ _ ⟨((cell_far (p := ⟨gb309, _, none⟩) NB307_309.out _).trans (((cell_far (p := ⟨gb309, _, none⟩) NB307_309.out _).trans (((cell_far (p := ⟨gb309, _, none⟩) NB307_309.out _).trans (hHeld.1)))))), ((cell_far (p := ⟨gb309, _, none⟩) NB307_309.out _).trans (((cell_far (p := ⟨gb309, _, none⟩) NB307_309.out _).trans (((cell_far (p := ⟨gb309, _, none⟩) NB307_309.out _).trans (hHeld.2.1)))))), ((cell_far (p := ⟨gb309, _, none⟩) NB307_309.out _).trans (((cell_far (p := ⟨gb309, _, none⟩) NB307_309.out _).trans (((cell_far (p := ⟨gb309, _, none⟩) NB307_309.out _).trans (hHeld.2.2.1)))))), ((cell_far (p := ⟨gb309, _, none⟩) NB308_309.out _).trans (((cell_far (p := ⟨gb309, _, none⟩) NB308_309.out _).trans (((cell_far (p := ⟨gb309, _, none⟩) NB308_309.out _).trans (hHeld.2.2.2.1)))))), ((cell_far (p := ⟨gb309, _, none⟩) NB308_309.out _).trans (((cell_far (p := ⟨gb309, _, none⟩) NB308_309.out _).trans (((cell_far (p := ⟨gb309, _, none⟩) NB308_309.out _).trans (hHeld.2.2.2.2.1)))))), ((cell_far (p := ⟨gb309, _, none⟩) NB308_309.out _).trans (((cell_far (p := ⟨gb309, _, none⟩) NB308_309.out _).trans (((cell_far (p := ⟨gb309, _, none⟩) NB308_309.out _).trans (hHeld.2.2.2.2.2))))))⟩ (fun hHeld => ?_)
  clear hK K
  refine one_ (i := 5) (N := none) #[true, true, true, true, true, true] rfl rfl (by kernel_rfl) (by decide) (fun K hK => ?_)
  have hs56 : w52.cell? ⟨gb310, 0, none⟩ = some (.int .i64 0) := (blk_cell BK310.out 0).trans rfl
  have hfs56 := blk_frozen BK310.out 0
  have hns56_0 := NB307_310.out
  have hns56_1 := NB308_310.out
  have hns56_2 := NB309_310.out
  have hms56_0 := NB310_307.out
  have hms56_1 := NB310_308.out
  have hms56_2 := NB310_309.out
  have hs57 : w52.cell? ⟨gb310, 1, none⟩ = some (.int .i64 0) := (blk_cell BK310.out 1).trans rfl
  have hfs57 := blk_frozen BK310.out 1
  have hns57_0 := NB307_310.out
  have hns57_1 := NB308_310.out
  have hns57_2 := NB309_310.out
  have hms57_0 := NB310_307.out
  have hms57_1 := NB310_308.out
  have hms57_2 := NB310_309.out
  have hs58 : w52.cell? ⟨gb310, 2, none⟩ = some (.int .i64 0) := (blk_cell BK310.out 2).trans rfl
  have hfs58 := blk_frozen BK310.out 2
  have hns58_0 := NB307_310.out
  have hns58_1 := NB308_310.out
  have hns58_2 := NB309_310.out
  have hms58_0 := NB310_307.out
  have hms58_1 := NB310_308.out
  have hms58_2 := NB310_309.out
  refine skip_ (w1 := ?_) (by rfl) rfl ?_ ?_
  rotate_left
  ·go_simp
   rfl
  refine hK.out _ _ ⟨((cell_far (p := ⟨gb310, _, none⟩) NB307_310.out _).trans (((cell_far (p := ⟨gb310, _, none⟩) NB307_310.out _).trans (((cell_far (p := ⟨gb310, _, none⟩) NB307_310.out _).trans (hHeld.1)))))), ((cell_far (p := ⟨gb310, _, none⟩) NB307_310.out _).trans (((cell_far (p := ⟨gb310, _, none⟩) NB307_310.out _).trans (((cell_far (p := ⟨gb310, _, none⟩) NB307_310.out _).trans (hHeld.2.1)))))), ((cell_far (p := ⟨gb310, _, none⟩) NB307_310.out _).trans (((cell_far (p := ⟨gb310, _, none⟩) NB307_310.out _).trans (((cell_far (p := ⟨gb310, _, none⟩) NB307_310.out _).trans (hHeld.2.2.1)))))), ((cell_far (p := ⟨gb310, _, none⟩) NB308_310.out _).trans (((cell_far (p := ⟨gb310, _, none⟩) NB308_310.out _).trans (((cell_far (p := ⟨gb310, _, none⟩) NB308_310.out _).trans (hHeld.2.2.2.1)))))), ((cell_far (p := ⟨gb310, _, none⟩) NB308_310.out _).trans (((cell_far (p := ⟨gb310, _, none⟩) NB308_310.out _).trans (((cell_far (p := ⟨gb310, _, none⟩) NB308_310.out _).trans (hHeld.2.2.2.2.1)))))), ((cell_far (p := ⟨gb310, _, none⟩) NB308_310.out _).trans (((cell_far (p := ⟨gb310, _, none⟩) NB308_310.out _).trans (((cell_far (p := ⟨gb310, _, none⟩) NB308_310.out _).trans (hHeld.2.2.2.2.2))))))⟩ (fun hHeld => ?_)
  clear hK K
  refine done_ (by kernel_rfl) ?_
  try go_wp2
  have n0_ : Aside0 (((((((w52.setCell ⟨gb309, 0, none⟩ (.int .i64 a0_0)).setCell ⟨gb309, 1, none⟩ (.int .i64 a0_1)).setCell ⟨gb309, 2, none⟩ (.int .i64 a0_2)).setCell ⟨gb310, 0, none⟩ (.int .i64 a1_0)).setCell ⟨gb310, 1, none⟩ (.int .i64 a1_1)).setCell ⟨gb310, 2, none⟩ (.int .i64 a1_2)).heap[gb307]? = some (.cells #[.int .i64 a0_0, .int .i64 a0_1, .int .i64 a0_2] 41 (0, 0))) := ⟨by (with_reducible repeat (first | refine blk_drewN ?_ _ | refine blk_drew ?_ | refine blk_alloc ?_ _)); refine blk_far ?_ NB307_310.out _; (with_reducible repeat (first | refine blk_drewN ?_ _ | refine blk_drew ?_ | refine blk_alloc ?_ _)); refine blk_far ?_ NB307_310.out _; (with_reducible repeat (first | refine blk_drewN ?_ _ | refine blk_drew ?_ | refine blk_alloc ?_ _)); refine blk_far ?_ NB307_310.out _; (with_reducible repeat (first | refine blk_drewN ?_ _ | refine blk_drew ?_ | refine blk_alloc ?_ _)); refine blk_far ?_ NB307_309.out _; (with_reducible repeat (first | refine blk_drewN ?_ _ | refine blk_drew ?_ | refine blk_alloc ?_ _)); refine blk_far ?_ NB307_309.out _; (with_reducible repeat (first | refine blk_drewN ?_ _ | refine blk_drew ?_ | refine blk_alloc ?_ _)); refine blk_far ?_ NB307_309.out _; (with_reducible repeat (first | refine blk_drewN ?_ _ | refine blk_drew ?_ | refine blk_alloc ?_ _)); exact BK307.out⟩
  have n1_ : Aside0 (((((((w52.setCell ⟨gb309, 0, none⟩ (.int .i64 a0_0)).setCell ⟨gb309, 1, none⟩ (.int .i64 a0_1)).setCell ⟨gb309, 2, none⟩ (.int .i64 a0_2)).setCell ⟨gb310, 0, none⟩ (.int .i64 a1_0)).setCell ⟨gb310, 1, none⟩ (.int .i64 a1_1)).setCell ⟨gb310, 2, none⟩ (.int .i64 a1_2)).heap[gb308]? = some (.cells #[.int .i64 a1_0, .int .i64 a1_1, .int .i64 a1_2] 41 (0, 0))) := ⟨by (with_reducible repeat (first | refine blk_drewN ?_ _ | refine blk_drew ?_ | refine blk_alloc ?_ _)); refine blk_far ?_ NB308_310.out _; (with_reducible repeat (first | refine blk_drewN ?_ _ | refine blk_drew ?_ | refine blk_alloc ?_ _)); refine blk_far ?_ NB308_310.out _; (with_reducible repeat (first | refine blk_drewN ?_ _ | refine blk_drew ?_ | refine blk_alloc ?_ _)); refine blk_far ?_ NB308_310.out _; (with_reducible repeat (first | refine blk_drewN ?_ _ | refine blk_drew ?_ | refine blk_alloc ?_ _)); refine blk_far ?_ NB308_309.out _; (with_reducible repeat (first | refine blk_drewN ?_ _ | refine blk_drew ?_ | refine blk_alloc ?_ _)); refine blk_far ?_ NB308_309.out _; (with_reducible repeat (first | refine blk_drewN ?_ _ | refine blk_drew ?_ | refine blk_alloc ?_ _)); refine blk_far ?_ NB308_309.out _; (with_reducible repeat (first | refine blk_drewN ?_ _ | refine blk_drew ?_ | refine blk_alloc ?_ _)); exact BK308.out⟩
  have n2_ : Aside0 (((((((w52.setCell ⟨gb309, 0, none⟩ (.int .i64 a0_0)).setCell ⟨gb309, 1, none⟩ (.int .i64 a0_1)).setCell ⟨gb309, 2, none⟩ (.int .i64 a0_2)).setCell ⟨gb310, 0, none⟩ (.int .i64 a1_0)).setCell ⟨gb310, 1, none⟩ (.int .i64 a1_1)).setCell ⟨gb310, 2, none⟩ (.int .i64 a1_2)).heap[gb309]? = some (.cells #[.int .i64 a0_0, .int .i64 a0_1, .int .i64 a0_2] 43 (0, 0))) := ⟨by (with_reducible repeat (first | refine blk_drewN ?_ _ | refine blk_drew ?_ | refine blk_alloc ?_ _)); refine blk_far ?_ NB309_310.out _; (with_reducible repeat (first | refine blk_drewN ?_ _ | refine blk_drew ?_ | refine blk_alloc ?_ _)); refine blk_far ?_ NB309_310.out _; (with_reducible repeat (first | refine blk_drewN ?_ _ | refine blk_drew ?_ | refine blk_alloc ?_ _)); refine blk_far ?_ NB309_310.out _; (with_reducible repeat (first | refine blk_drewN ?_ _ | refine blk_drew ?_ | refine blk_alloc ?_ _)); refine blk_put (cs := #[.int .i64 a0_0, .int .i64 a0_1, .int .i64 0]) ?_ 2 _ rfl; (with_reducible repeat (first | refine blk_drewN ?_ _ | refine blk_drew ?_ | refine blk_alloc ?_ _)); refine blk_put (cs := #[.int .i64 a0_0, .int .i64 0, .int .i64 0]) ?_ 1 _ rfl; (with_reducible repeat (first | refine blk_drewN ?_ _ | refine blk_drew ?_ | refine blk_alloc ?_ _)); refine blk_put (cs := #[.int .i64 0, .int .i64 0, .int .i64 0]) ?_ 0 _ rfl; (with_reducible repeat (first | refine blk_drewN ?_ _ | refine blk_drew ?_ | refine blk_alloc ?_ _)); exact BK309.out⟩
  have n3_ : Aside0 (((((((w52.setCell ⟨gb309, 0, none⟩ (.int .i64 a0_0)).setCell ⟨gb309, 1, none⟩ (.int .i64 a0_1)).setCell ⟨gb309, 2, none⟩ (.int .i64 a0_2)).setCell ⟨gb310, 0, none⟩ (.int .i64 a1_0)).setCell ⟨gb310, 1, none⟩ (.int .i64 a1_1)).setCell ⟨gb310, 2, none⟩ (.int .i64 a1_2)).heap[gb310]? = some (.cells #[.int .i64 a1_0, .int .i64 a1_1, .int .i64 a1_2] 43 (0, 0))) := ⟨by (with_reducible repeat (first | refine blk_drewN ?_ _ | refine blk_drew ?_ | refine blk_alloc ?_ _)); refine blk_put (cs := #[.int .i64 a1_0, .int .i64 a1_1, .int .i64 0]) ?_ 2 _ rfl; (with_reducible repeat (first | refine blk_drewN ?_ _ | refine blk_drew ?_ | refine blk_alloc ?_ _)); refine blk_put (cs := #[.int .i64 a1_0, .int .i64 0, .int .i64 0]) ?_ 1 _ rfl; (with_reducible repeat (first | refine blk_drewN ?_ _ | refine blk_drew ?_ | refine blk_alloc ?_ _)); refine blk_put (cs := #[.int .i64 0, .int .i64 0, .int .i64 0]) ?_ 0 _ rfl; (with_reducible repeat (first | refine blk_drewN ?_ _ | refine blk_drew ?_ | refine blk_alloc ?_ _)); refine blk_far ?_ NB310_309.out _; (with_reducible repeat (first | refine blk_drewN ?_ _ | refine blk_drew ?_ | refine blk_alloc ?_ _)); refine blk_far ?_ NB310_309.out _; (with_reducible repeat (first | refine blk_drewN ?_ _ | refine blk_drew ?_ | refine blk_alloc ?_ _)); refine blk_far ?_ NB310_309.out _; (with_reducible repeat (first | refine blk_drewN ?_ _ | refine blk_drew ?_ | refine blk_alloc ?_ _)); exact BK310.out⟩
  have n4_ : Aside0 (Below w.heap.size w ((((((w52.setCell ⟨gb309, 0, none⟩ (.int .i64 a0_0)).setCell ⟨gb309, 1, none⟩ (.int .i64 a0_1)).setCell ⟨gb309, 2, none⟩ (.int .i64 a0_2)).setCell ⟨gb310, 0, none⟩ (.int .i64 a1_0)).setCell ⟨gb310, 1, none⟩ (.int .i64 a1_1)).setCell ⟨gb310, 2, none⟩ (.int .i64 a1_2))) := ⟨by repeat (first | (with_reducible first | exact HB.out | apply below_alloc | apply pw_below_drewN | apply below_drew1 | refine below_set ?_ GE307.out | refine below_set ?_ GE308.out | refine below_set ?_ GE309.out | refine below_set ?_ GE310.out) | exact HB.out)⟩
  (try clear BK307)
  (try clear BK308)
  (try clear BK309)
  (try clear BK310)
  (try clear HB)
  generalize ((((((w52.setCell ⟨gb309, 0, none⟩ (.int .i64 a0_0)).setCell ⟨gb309, 1, none⟩ (.int .i64 a0_1)).setCell ⟨gb309, 2, none⟩ (.int .i64 a0_2)).setCell ⟨gb310, 0, none⟩ (.int .i64 a1_0)).setCell ⟨gb310, 1, none⟩ (.int .i64 a1_1)).setCell ⟨gb310, 2, none⟩ (.int .i64 a1_2)) = w59 at n0_ n1_ n2_ n3_ n4_ ⊢
  have BK307 := n0_
  have BK308 := n1_
  have BK309 := n2_
  have BK310 := n3_
  have HB := n4_
  clear n0_ n1_ n2_ n3_ n4_
  have n0_ := Aside0.mk (blk_drew BK307.out)
  have n1_ := Aside0.mk (blk_drew BK308.out)
  have n2_ := Aside0.mk (blk_drew BK309.out)
  have n3_ := Aside0.mk (blk_drew BK310.out)
  have n4_ := Aside0.mk (below_drew1 HB.out)
  clear BK307
  clear BK308
  clear BK309
  clear BK310
  clear HB
  have BK307 := n0_
  have BK308 := n1_
  have BK309 := n2_
  have BK310 := n3_
  have HB := n4_
  clear n0_ n1_ n2_ n3_ n4_
  refine start_ (n := 20) (S := fun w' => w'.cell? ⟨gb307, 0, none⟩ = some (.int .i64 a0_0) ∧ w'.cell? ⟨gb307, 1, none⟩ = some (.int .i64 a0_1) ∧ w'.cell? ⟨gb307, 2, none⟩ = some (.int .i64 a0_2) ∧ w'.cell? ⟨gb308, 0, none⟩ = some (.int .i64 a1_0) ∧ w'.cell? ⟨gb308, 1, none⟩ = some (.int .i64 a1_1) ∧ w'.cell? ⟨gb308, 2, none⟩ = some (.int .i64 a1_2) ∧ w'.cell? ⟨gb309, 0, none⟩ = some (.int .i64 a0_0) ∧ w'.cell? ⟨gb309, 1, none⟩ = some (.int .i64 a0_1) ∧ w'.cell? ⟨gb309, 2, none⟩ = some (.int .i64 a0_2) ∧ w'.cell? ⟨gb310, 0, none⟩ = some (.int .i64 a1_0) ∧ w'.cell? ⟨gb310, 1, none⟩ = some (.int .i64 a1_1) ∧ w'.cell? ⟨gb310, 2, none⟩ = some (.int .i64 a1_2)) (ds := []) #[false, false, false, false, false, false, false, false, false, false, false, false, false, false, false, false, false, false, false, false] (by kernel_rfl) rfl rfl ⟨(blk_cell BK307.out 0).trans rfl, (blk_cell BK307.out 1).trans rfl, (blk_cell BK307.out 2).trans rfl, (blk_cell BK308.out 0).trans rfl, (blk_cell BK308.out 1).trans rfl, (blk_cell BK308.out 2).trans rfl, (blk_cell BK309.out 0).trans rfl, (blk_cell BK309.out 1).trans rfl, (blk_cell BK309.out 2).trans rfl, (blk_cell BK310.out 0).trans rfl, (blk_cell BK310.out 1).trans rfl, (blk_cell BK310.out 2).trans rfl⟩ (fun hHeld => ?_); refine with_tabW corporalaw10_TreelabelCompares.tab2 corporalaw10_TreelabelCompares.bits2 (fun HT_ HW_ => ?_)
  generalize w59.drew = w60 at BK307 BK308 BK309 BK310 HB hHeld ⊢
  refine take_ (i := 0) (N := some 9) (v := ?_) (a' := ?_) #[true, false, false, false, false, false, false, false, false, false, false, false, false, false, false, false, false, false, false, false] rfl rfl (take_ofW HT_.out HW_.out (by kernel_rfl)) (fun _ _ _ h => h) (Or.inl ⟨by rfl, ?_⟩) hHeld ?_ ?_
  rotate_left
  ·rintro w' ⟨s0, s1, s2, s3, s4, s5, s6, s7, s8, s9, s10, s11⟩
   go_simp
   with_reducible rfl
  rotate_left
  ·simp only [Act.put, List.setIfInBounds_toArray, List.set_cons_zero, List.set_cons_succ, i64_w, i32_w]
   rfl
  refine take_ (i := 1) (N := some 10) (v := ?_) (a' := ?_) #[true, true, false, false, false, false, false, false, false, false, false, false, false, false, false, false, false, false, false, false] rfl rfl (take_ofW HT_.out HW_.out (by kernel_rfl)) (fun _ _ _ h => h) (Or.inl ⟨by rfl, ?_⟩) hHeld ?_ ?_
  rotate_left
  ·rintro w' ⟨s0, s1, s2, s3, s4, s5, s6, s7, s8, s9, s10, s11⟩
   go_simp
   with_reducible rfl
  rotate_left
  ·simp only [Act.put, List.setIfInBounds_toArray, List.set_cons_zero, List.set_cons_succ, i64_w, i32_w]
   rfl
  refine take_ (i := 3) (N := some 12) (v := ?_) (a' := ?_) #[true, true, false, true, false, false, false, false, false, false, false, false, false, false, false, false, false, false, false, false] rfl rfl (take_ofW HT_.out HW_.out (by kernel_rfl)) (fun _ _ _ h => h) (Or.inl ⟨by rfl, ?_⟩) hHeld ?_ ?_
  rotate_left
  ·rintro w' ⟨s0, s1, s2, s3, s4, s5, s6, s7, s8, s9, s10, s11⟩
   go_simp
   with_reducible rfl
  rotate_left
  ·simp only [Act.put, List.setIfInBounds_toArray, List.set_cons_zero, List.set_cons_succ, i64_w, i32_w]
   rfl
  refine take_ (i := 4) (N := some 13) (v := ?_) (a' := ?_) #[true, true, false, true, true, false, false, false, false, false, false, false, false, false, false, false, false, false, false, false] rfl rfl (take_ofW HT_.out HW_.out (by kernel_rfl)) (fun _ _ _ h => h) (Or.inl ⟨by rfl, ?_⟩) hHeld ?_ ?_
  rotate_left
  ·rintro w' ⟨s0, s1, s2, s3, s4, s5, s6, s7, s8, s9, s10, s11⟩
   go_simp
   with_reducible rfl
  rotate_left
  ·simp only [Act.put, List.setIfInBounds_toArray, List.set_cons_zero, List.set_cons_succ, i64_w, i32_w]
   rfl
  refine one_ (i := 2) (N := some 11) #[true, true, true, true, true, false, false, false, false, false, false, false, false, false, false, false, false, false, false, false] rfl rfl (one_of HT_.out (by kernel_rfl)) (by decide) (fun K hK => ?_)
  refine goes_ Try.func20 (by kernel_rfl) rfl #[.agg #[.int .i64 a0_0, .int .i64 a0_1, .int .i64 a0_2], .agg #[.int .i64 a1_0, .int .i64 a1_1, .int .i64 a1_2]] (by rfl) rfl rfl (by (try simp only [List.map_toArray, List.map_cons, List.map_nil]); first | done | rfl | (simp only [List.length_drop, List.length_take]; rfl)) ?_
  with_reducible refine (treelabel_Dominates.calls a0_0 a0_1 a0_2 a1_0 a1_1 a1_2 t311 _ A3.out).mono ?_
  rintro e w61 ⟨rfl, hb⟩
  refine ⟨_, rfl, ?_⟩
  have n0_ := Aside0.mk (blk_below (g := gb307) (o := .cells #[.int .i64 a0_0, .int .i64 a0_1, .int .i64 a0_2] 41 (0, 0)) (by (with_reducible repeat (first | refine blk_drewN ?_ _ | refine blk_drew ?_ | refine blk_alloc ?_ _)); exact BK307.out) hb)
  have n1_ := Aside0.mk (blk_below (g := gb308) (o := .cells #[.int .i64 a1_0, .int .i64 a1_1, .int .i64 a1_2] 41 (0, 0)) (by (with_reducible repeat (first | refine blk_drewN ?_ _ | refine blk_drew ?_ | refine blk_alloc ?_ _)); exact BK308.out) hb)
  have n2_ := Aside0.mk (blk_below (g := gb309) (o := .cells #[.int .i64 a0_0, .int .i64 a0_1, .int .i64 a0_2] 43 (0, 0)) (by (with_reducible repeat (first | refine blk_drewN ?_ _ | refine blk_drew ?_ | refine blk_alloc ?_ _)); exact BK309.out) hb)
  have n3_ := Aside0.mk (blk_below (g := gb310) (o := .cells #[.int .i64 a1_0, .int .i64 a1_1, .int .i64 a1_2] 43 (0, 0)) (by (with_reducible repeat (first | refine blk_drewN ?_ _ | refine blk_drew ?_ | refine blk_alloc ?_ _)); exact BK310.out) hb)
  have n4_ := Aside0.mk (below_step (by repeat (first | (with_reducible first | exact HB.out | apply below_alloc | apply pw_below_drewN | apply below_drew1 | refine below_set ?_ GE307.out | refine below_set ?_ GE308.out | refine below_set ?_ GE309.out | refine below_set ?_ GE310.out) | exact HB.out)) hb)
  clear BK307
  clear BK308
  clear BK309
  clear BK310
  clear HB
  have BK307 := n0_
  have BK308 := n1_
  have BK309 := n2_
  have BK310 := n3_
  have HB := n4_
  clear n0_ n1_ n2_ n3_ n4_
  (try clear hb)
  (try clear hb2)
  (try clear hk)
  (try clear hi)
  refine hK.out _ _ ⟨(blk_cell BK307.out 0).trans rfl, (blk_cell BK307.out 1).trans rfl, (blk_cell BK307.out 2).trans rfl, (blk_cell BK308.out 0).trans rfl, (blk_cell BK308.out 1).trans rfl, (blk_cell BK308.out 2).trans rfl, (blk_cell BK309.out 0).trans rfl, (blk_cell BK309.out 1).trans rfl, (blk_cell BK309.out 2).trans rfl, (blk_cell BK310.out 0).trans rfl, (blk_cell BK310.out 1).trans rfl, (blk_cell BK310.out 2).trans rfl⟩ (fun hHeld => ?_)
  clear hK K
  refine norm_ (a' := ?_) ?_ ?_
  rotate_left
  ·show Act.put _ (some 11) _ = _
   simp only [Act.put, List.setIfInBounds_toArray, List.set_cons_zero, List.set_cons_succ, i64_w, i32_w]
   rfl
  refine one_ (i := 5) (N := some 14) #[true, true, true, true, true, true, false, false, false, false, false, false, false, false, false, false, false, false, false, false] rfl rfl (one_of HT_.out (by kernel_rfl)) (by decide) (fun K hK => ?_)
  refine goes_ Try.func22 (by kernel_rfl) rfl #[.agg #[.int .i64 a0_0, .int .i64 a0_1, .int .i64 a0_2], .agg #[.int .i64 a1_0, .int .i64 a1_1, .int .i64 a1_2]] (by rfl) rfl rfl (by (try simp only [List.map_toArray, List.map_cons, List.map_nil]); first | done | rfl | (simp only [List.length_drop, List.length_take]; rfl)) ?_
  with_reducible refine (corporaref10_Dominates.calls a0_0 a0_1 a0_2 a1_0 a1_1 a1_2 t312 _ A4.out).mono ?_
  rintro e w62 ⟨rfl, hb⟩
  refine ⟨_, rfl, ?_⟩
  have n0_ := Aside0.mk (blk_below (g := gb307) (o := .cells #[.int .i64 a0_0, .int .i64 a0_1, .int .i64 a0_2] 41 (0, 0)) (by (with_reducible repeat (first | refine blk_drewN ?_ _ | refine blk_drew ?_ | refine blk_alloc ?_ _)); exact BK307.out) hb)
  have n1_ := Aside0.mk (blk_below (g := gb308) (o := .cells #[.int .i64 a1_0, .int .i64 a1_1, .int .i64 a1_2] 41 (0, 0)) (by (with_reducible repeat (first | refine blk_drewN ?_ _ | refine blk_drew ?_ | refine blk_alloc ?_ _)); exact BK308.out) hb)
  have n2_ := Aside0.mk (blk_below (g := gb309) (o := .cells #[.int .i64 a0_0, .int .i64 a0_1, .int .i64 a0_2] 43 (0, 0)) (by (with_reducible repeat (first | refine blk_drewN ?_ _ | refine blk_drew ?_ | refine blk_alloc ?_ _)); exact BK309.out) hb)
  have n3_ := Aside0.mk (blk_below (g := gb310) (o := .cells #[.int .i64 a1_0, .int .i64 a1_1, .int .i64 a1_2] 43 (0, 0)) (by (with_reducible repeat (first | refine blk_drewN ?_ _ | refine blk_drew ?_ | refine blk_alloc ?_ _)); exact BK310.out) hb)
  have n4_ := Aside0.mk (below_step (by repeat (first | (with_reducible first | exact HB.out | apply below_alloc | apply pw_below_drewN | apply below_drew1 | refine below_set ?_ GE307.out | refine below_set ?_ GE308.out | refine below_set ?_ GE309.out | refine below_set ?_ GE310.out) | exact HB.out)) hb)
  clear BK307
  clear BK308
  clear BK309
  clear BK310
  clear HB
  have BK307 := n0_
  have BK308 := n1_
  have BK309 := n2_
  have BK310 := n3_
  have HB := n4_
  clear n0_ n1_ n2_ n3_ n4_
  (try clear hb)
  (try clear hb2)
  (try clear hk)
  (try clear hi)
  refine hK.out _ _ ⟨(blk_cell BK307.out 0).trans rfl, (blk_cell BK307.out 1).trans rfl, (blk_cell BK307.out 2).trans rfl, (blk_cell BK308.out 0).trans rfl, (blk_cell BK308.out 1).trans rfl, (blk_cell BK308.out 2).trans rfl, (blk_cell BK309.out 0).trans rfl, (blk_cell BK309.out 1).trans rfl, (blk_cell BK309.out 2).trans rfl, (blk_cell BK310.out 0).trans rfl, (blk_cell BK310.out 1).trans rfl, (blk_cell BK310.out 2).trans rfl⟩ (fun hHeld => ?_)
  clear hK K
  refine norm_ (a' := ?_) ?_ ?_
  rotate_left
  ·show Act.put _ (some 14) _ = _
   simp only [Act.put, List.setIfInBounds_toArray, List.set_cons_zero, List.set_cons_succ, i64_w, i32_w]
   rfl
  refine pure_ (i := 6) (N := some 15) (v := ?_) (a' := ?_) #[true, true, true, true, true, true, true, false, false, false, false, false, false, false, false, false, false, false, false, false] rfl rfl (any_of HT_.out (by kernel_rfl)) (fun _ _ _ h => h) (Or.inl ⟨by rfl, ?_⟩) ?_ ?_
  rotate_left
  ·intro w'
   go_simp
   with_reducible rfl
  rotate_left
  ·simp only [Act.put, List.setIfInBounds_toArray, List.set_cons_zero, List.set_cons_succ, i64_w, i32_w]
   rfl
  refine pure_ (i := 7) (N := some 16) (v := ?_) (a' := ?_) #[true, true, true, true, true, true, true, true, false, false, false, false, false, false, false, false, false, false, false, false] rfl rfl (any_of HT_.out (by kernel_rfl)) (fun _ _ _ h => h) (Or.inl ⟨by rfl, ?_⟩) ?_ ?_
  rotate_left
  ·intro w'
   go_simp
   with_reducible rfl
  rotate_left
  ·simp only [Act.put, List.setIfInBounds_toArray, List.set_cons_zero, List.set_cons_succ, i64_w, i32_w]
   rfl
  refine pure_ (i := 8) (N := some 17) (v := undef) (a' := ?_) #[true, true, true, true, true, true, true, true, true, false, false, false, false, false, false, false, false, false, false, false] rfl rfl (any_of HT_.out (by kernel_rfl)) (fun _ _ _ h => h) (Or.inr ⟨by rfl, rfl⟩) ?_ ?_
  rotate_left
  ·simp only [Act.put, List.setIfInBounds_toArray, List.set_cons_zero, List.set_cons_succ, i64_w, i32_w]
   rfl
  refine pure_ (i := 9) (N := some 18) (v := undef) (a' := ?_) #[true, true, true, true, true, true, true, true, true, true, false, false, false, false, false, false, false, false, false, false] rfl rfl (any_of HT_.out (by kernel_rfl)) (fun _ _ _ h => h) (Or.inr ⟨by rfl, rfl⟩) ?_ ?_
  rotate_left
  ·simp only [Act.put, List.setIfInBounds_toArray, List.set_cons_zero, List.set_cons_succ, i64_w, i32_w]
   rfl
  refine pure_ (i := 10) (N := some 19) (v := undef) (a' := ?_) #[true, true, true, true, true, true, true, true, true, true, true, false, false, false, false, false, false, false, false, false] rfl rfl (any_of HT_.out (by kernel_rfl)) (fun _ _ _ h => h) (Or.inr ⟨by rfl, rfl⟩) ?_ ?_
  rotate_left
  ·simp only [Act.put, List.setIfInBounds_toArray, List.set_cons_zero, List.set_cons_succ, i64_w, i32_w]
   rfl
  refine pure_ (i := 11) (N := some 20) (v := undef) (a' := ?_) #[true, true, true, true, true, true, true, true, true, true, true, true, false, false, false, false, false, false, false, false] rfl rfl (any_of HT_.out (by kernel_rfl)) (fun _ _ _ h => h) (Or.inr ⟨by rfl, rfl⟩) ?_ ?_
  rotate_left
  ·simp only [Act.put, List.setIfInBounds_toArray, List.set_cons_zero, List.set_cons_succ, i64_w, i32_w]
   rfl
  refine pure_ (i := 12) (N := some 21) (v := undef) (a' := ?_) #[true, true, true, true, true, true, true, true, true, true, true, true, true, false, false, false, false, false, false, false] rfl rfl (any_of HT_.out (by kernel_rfl)) (fun _ _ _ h => h) (Or.inr ⟨by rfl, rfl⟩) ?_ ?_
  rotate_left
  ·simp only [Act.put, List.setIfInBounds_toArray, List.set_cons_zero, List.set_cons_succ, i64_w, i32_w]
   rfl
  refine pure_ (i := 13) (N := some 22) (v := undef) (a' := ?_) #[true, true, true, true, true, true, true, true, true, true, true, true, true, true, false, false, false, false, false, false] rfl rfl (any_of HT_.out (by kernel_rfl)) (fun _ _ _ h => h) (Or.inr ⟨by rfl, rfl⟩) ?_ ?_
  rotate_left
  ·simp only [Act.put, List.setIfInBounds_toArray, List.set_cons_zero, List.set_cons_succ, i64_w, i32_w]
   rfl
  refine pure_ (i := 14) (N := some 23) (v := undef) (a' := ?_) #[true, true, true, true, true, true, true, true, true, true, true, true, true, true, true, false, false, false, false, false] rfl rfl (any_of HT_.out (by kernel_rfl)) (fun _ _ _ h => h) (Or.inr ⟨by rfl, rfl⟩) ?_ ?_
  rotate_left
  ·simp only [Act.put, List.setIfInBounds_toArray, List.set_cons_zero, List.set_cons_succ, i64_w, i32_w]
   rfl
  refine pure_ (i := 15) (N := some 24) (v := ?_) (a' := ?_) #[true, true, true, true, true, true, true, true, true, true, true, true, true, true, true, true, false, false, false, false] rfl rfl (any_of HT_.out (by kernel_rfl)) (fun _ _ _ h => h) (Or.inl ⟨by rfl, ?_⟩) ?_ ?_
  rotate_left
  ·intro w'
   go_simp
   with_reducible rfl
  rotate_left
  ·simp only [Act.put, List.setIfInBounds_toArray, List.set_cons_zero, List.set_cons_succ, i64_w, i32_w]
   rfl
  refine pure_ (i := 16) (N := some 25) (v := ?_) (a' := ?_) #[true, true, true, true, true, true, true, true, true, true, true, true, true, true, true, true, true, false, false, false] rfl rfl (any_of HT_.out (by kernel_rfl)) (fun _ _ _ h => h) (Or.inl ⟨by rfl, ?_⟩) ?_ ?_
  rotate_left
  ·intro w'
   go_simp
   with_reducible rfl
  rotate_left
  ·simp only [Act.put, List.setIfInBounds_toArray, List.set_cons_zero, List.set_cons_succ, i64_w, i32_w]
   rfl
  refine pure_ (i := 17) (N := some 26) (v := undef) (a' := ?_) #[true, true, true, true, true, true, true, true, true, true, true, true, true, true, true, true, true, true, false, false] rfl rfl (any_of HT_.out (by kernel_rfl)) (fun _ _ _ h => h) (Or.inr ⟨by rfl, rfl⟩) ?_ ?_
  rotate_left
  ·simp only [Act.put, List.setIfInBounds_toArray, List.set_cons_zero, List.set_cons_succ, i64_w, i32_w]
   rfl
  refine pure_ (i := 18) (N := some 27) (v := ?_) (a' := ?_) #[true, true, true, true, true, true, true, true, true, true, true, true, true, true, true, true, true, true, true, false] rfl rfl (any_of HT_.out (by kernel_rfl)) (fun _ _ _ h => h) (Or.inl ⟨by rfl, ?_⟩) ?_ ?_
  rotate_left
  ·intro w'
   go_simp
   with_reducible rfl
  rotate_left
  ·simp only [Act.put, List.setIfInBounds_toArray, List.set_cons_zero, List.set_cons_succ, i64_w, i32_w]
   rfl
  refine pure_ (i := 19) (N := some 4) (v := ?_) (a' := ?_) #[true, true, true, true, true, true, true, true, true, true, true, true, true, true, true, true, true, true, true, true] rfl rfl (any_of HT_.out (by kernel_rfl)) (fun _ _ _ h => h) (Or.inl ⟨by rfl, ?_⟩) ?_ ?_
  rotate_left
  ·intro w'
   go_simp
   with_reducible rfl
  rotate_left
  ·simp only [Act.put, List.setIfInBounds_toArray, List.set_cons_zero, List.set_cons_succ, i64_w, i32_w]
   rfl
  refine done_ (done_of HT_.out (by kernel_rfl)) ?_
  try go_wp2
  go_ret
  exact ⟨by first | rfl | (simp [errW_none, errW_some] <;> rfl) | (simp [*, errW_none, errW_some] <;> rfl), by repeat (first | (with_reducible first | exact HB.out | apply below_alloc | apply pw_below_drewN | apply below_drew1 | refine below_set ?_ GE307.out | refine below_set ?_ GE308.out | refine below_set ?_ GE309.out | refine below_set ?_ GE310.out) | exact HB.out)⟩

end Go.Proofs.Ythjcmodhleoocaa.Q
/- Up -/
namespace Go.Proofs.Ythjcmodhleoocaa.TP

theorem pigeon : ∀ (n : Nat) (f : Nat → Nat), (∀ i, i ≤ n → f i < n) → ∃ i j, i < j ∧ j ≤ n ∧ f i = f j := by
  intro n
  induction n with
  | zero => intro f h; exact absurd (h 0 (Nat.le_refl _)) (Nat.not_lt_zero _)
  | succ n ih =>
    intro f h
    by_cases hx : ∃ i, i ≤ n ∧ f i = f (n + 1)
    · obtain ⟨i, hi, e⟩ := hx
      exact ⟨i, n + 1, by omega, Nat.le_refl _, e⟩
    · have hne : ∀ i, i ≤ n → f i ≠ f (n + 1) := fun i hi e => hx ⟨i, hi, e⟩
      obtain ⟨i, j, hij, hj, e⟩ := ih (fun i => if f i = n then f (n + 1) else f i) (fun i hi => by
        have h1 := h i (by omega)
        have h2 := h (n + 1) (Nat.le_refl _)
        have h3 := hne i hi
        show (if f i = n then f (n + 1) else f i) < n
        split <;> omega)
      refine ⟨i, j, hij, by omega, ?_⟩
      have h3 := hne i (by omega)
      have h4 := hne j hj
      split at e <;> split at e <;> omega

/-- Distinct members of a list that all lie in another: no more of them. -/
theorem inj_le (n m : Nat) (f : Nat → Nat) (hf : ∀ i, i < n → f i < m) (hi : ∀ i j, i < n → j < n → f i = f j → i = j) : n ≤ m := by
  rcases Nat.lt_or_ge m n with h | h
  · obtain ⟨i, j, hij, hj, e⟩ := pigeon m f (fun i hi' => hf i (by omega))
    have := hi i j (by omega) (by omega) e
    omega
  · exact h

/-- The element at an index. -/
def rdi (ps : List Int) (x : Int) : Int := ps.getD x.toNat 0
/-- One step up; what is no node stays. -/
def stp (ps : List Int) (x : Int) : Int := if x < 0 then x else rdi ps x
def up (ps : List Int) : Nat → Int → Int
  | 0, x => x
  | m + 1, x => up ps m (stp ps x)
theorem stp_neg {ps : List Int} {x : Int} (h : x < 0) : stp ps x = x := if_pos h
theorem stp_nn {ps : List Int} {x : Int} (h : 0 ≤ x) : stp ps x = rdi ps x := if_neg (by omega)
theorem up_succ (ps : List Int) (m : Nat) (x : Int) : up ps (m + 1) x = up ps m (stp ps x) := rfl
theorem up_out (ps : List Int) (m : Nat) : ∀ x, up ps (m + 1) x = stp ps (up ps m x) := by
  induction m with
  | zero => intro x; rfl
  | succ m ih => intro x; rw [up_succ, ih]; rfl
theorem up_add (ps : List Int) (a b : Nat) (x : Int) : up ps (a + b) x = up ps a (up ps b x) := by
  induction a generalizing b x with
  | zero => rw [Nat.zero_add]; rfl
  | succ a ih => rw [show a + 1 + b = a + (b + 1) from by omega, ih, up_out, up_succ]
theorem up_neg {ps : List Int} {x : Int} (m : Nat) (h : x < 0) : up ps m x = x := by
  induction m with
  | zero => rfl
  | succ m ih => rw [up_succ, stp_neg h, ih]
theorem up_nn_of {ps : List Int} {x : Int} {a b : Nat} (hab : a ≤ b) (h : 0 ≤ up ps b x) : 0 ≤ up ps a x := by
  rcases Int.lt_or_le (up ps a x) 0 with h1 | h1
  · have : up ps b x = up ps a x := by rw [show b = (b - a) + a from by omega, up_add, up_neg _ h1]
    omega
  · exact h1

/-- All parents are nodes or -1. -/
def InR (ps : List Int) : Prop := ∀ x : Int, 0 ≤ x → x < ps.length → -1 ≤ rdi ps x ∧ rdi ps x < ps.length
theorem up_range {ps : List Int} (h : InR ps) {x : Int} (hx : -1 ≤ x) (hx' : x < ps.length) (m : Nat) : -1 ≤ up ps m x ∧ up ps m x < ps.length := by
  induction m with
  | zero => exact ⟨hx, hx'⟩
  | succ m ih =>
    rw [up_out]
    rcases Int.lt_or_le (up ps m x) 0 with h1 | h1
    · rw [stp_neg h1]; exact ih
    · rw [stp_nn h1]; exact h _ h1 ih.2

/-- A node from which the parents lead back to it. -/
def Cyc (ps : List Int) (x : Int) : Prop := 0 ≤ x ∧ ∃ m, 0 < m ∧ up ps m x = x
theorem cyc_mul {ps : List Int} {x : Int} {m : Nat} (h : up ps m x = x) (c : Nat) : up ps (c * m) x = x := by
  induction c with
  | zero => rw [Nat.zero_mul]; rfl
  | succ c ih => rw [Nat.succ_mul, up_add, h, ih]
theorem cyc_up_nn {ps : List Int} {x : Int} (h : Cyc ps x) (i : Nat) : 0 ≤ up ps i x := by
  obtain ⟨hx, m, hm, e⟩ := h
  have h1 := cyc_mul e i
  refine up_nn_of (b := i * m) (Nat.le_mul_of_pos_right i hm) ?_
  rw [h1]; exact hx
theorem cyc_up {ps : List Int} {x : Int} (h : Cyc ps x) (i : Nat) : Cyc ps (up ps i x) := by
  refine ⟨cyc_up_nn h i, ?_⟩
  obtain ⟨_, m, hm, e⟩ := h
  exact ⟨m, hm, by rw [← up_add, Nat.add_comm, up_add, e]⟩
/-- On a cycle every later point leads back. -/
theorem cyc_back {ps : List Int} {x : Int} (h : Cyc ps x) (i : Nat) : ∃ j, up ps j (up ps i x) = x := by
  obtain ⟨_, m, hm, e⟩ := h
  have h1 := cyc_mul e i
  have h2 : i ≤ i * m := Nat.le_mul_of_pos_right i hm
  exact ⟨i * m - i, by rw [← up_add, Nat.sub_add_cancel h2, h1]⟩
theorem natAbs_lt {x : Int} {n : Nat} (h0 : 0 ≤ x) (h1 : x < n) : x.toNat < n := by omega
/-- A repetition within the first n steps. -/
theorem up_repeat {ps : List Int} (h : InR ps) {x : Int} (hx : x < ps.length) (hn : ∀ i, i ≤ ps.length → 0 ≤ up ps i x) : ∃ i j, i < j ∧ j ≤ ps.length ∧ up ps i x = up ps j x := by
  have h0 : -1 ≤ x := by have := hn 0 (Nat.zero_le _); simp only [up] at this; omega
  obtain ⟨i, j, hij, hj, e⟩ := pigeon ps.length (fun i => (up ps i x).toNat) (fun i hi => natAbs_lt (hn i hi) (up_range h h0 hx i).2)
  have hi' := hn i (by omega)
  have hj' := hn j hj
  exact ⟨i, j, hij, hj, by have e2 : (up ps i x).toNat = (up ps j x).toNat := e; omega⟩
/-- The way back is no longer than the list. -/
theorem cyc_short {ps : List Int} (h : InR ps) {x : Int} (hx : x < ps.length) (hc : Cyc ps x) : ∃ m, 0 < m ∧ m ≤ ps.length ∧ up ps m x = x := by
  obtain ⟨i, j, hij, hj, e⟩ := up_repeat h hx (fun i _ => cyc_up_nn hc i)
  obtain ⟨b, hb⟩ := cyc_back hc i
  refine ⟨j - i, by omega, by omega, ?_⟩
  have h1 : up ps (b + j) x = x := by rw [up_add, ← e, hb]
  have h2 : up ps (b + i) x = x := by rw [up_add, hb]
  have h3 : b + j = (j - i) + (b + i) := by omega
  rw [h3, up_add, h2] at h1
  exact h1
/-- No cycle: every way ends. -/
theorem ends_of {ps : List Int} (h : InR ps) (hc : ∀ x : Int, 0 ≤ x → x < ps.length → ¬ Cyc ps x) {x : Int} (hx0 : 0 ≤ x) (hx : x < ps.length) : ∃ m, m ≤ ps.length ∧ up ps m x < 0 := by
  by_cases hn : ∃ i, i ≤ ps.length ∧ up ps i x < 0
  · exact hn
  · exfalso
    obtain ⟨i, j, hij, hj, e⟩ := up_repeat h hx (fun i hi => by
      rcases Int.lt_or_le (up ps i x) 0 with h1 | h1
      · exact absurd ⟨i, hi, h1⟩ hn
      · exact h1)
    have h0 : 0 ≤ up ps i x := by
      rcases Int.lt_or_le (up ps i x) 0 with h1 | h1
      · exact absurd ⟨i, by omega, h1⟩ hn
      · exact h1
    refine hc _ h0 (up_range h (by omega) hx i).2 ⟨h0, j - i, by omega, ?_⟩
    rw [← up_add, Nat.sub_add_cancel (by omega)]
    exact e.symm
end Go.Proofs.Ythjcmodhleoocaa.TP
/- EvAid -/
namespace Go.Proofs.Ythjcmodhleoocaa.Q
open Go.RowKit Go.Proofs.YthjcmodhleoocaaW.PrintWords Go.Proofs.YthjcmodhleoocaaW.PrintLast

theorem ev_pos {α : Type} {c : Prop} [Decidable c] {f g : Nat → Option α} {r : α} (h : c) (e : Ev f r) : Ev (fun k => if c then f k else g k) r := Ev.congr (fun _ => if_pos h) e
theorem ev_neg {α : Type} {c : Prop} [Decidable c] {f g : Nat → Option α} {r : α} (h : ¬ c) (e : Ev g r) : Ev (fun k => if c then f k else g k) r := Ev.congr (fun _ => if_neg h) e
theorem ev_some {α β : Type} {a : α} {f : Nat → α → Option β} {r : β} (e : Ev (fun k => f k a) r) : Ev (fun k => (some a).bind (f k)) r := e
theorem ev_now {α : Type} {r r' : α} (h : r = r') : Ev (fun _ => some r) r' := by subst h; exact Ev.now r
theorem ev_eq {α : Type} {f : Nat → Option α} {r r' : α} (e : Ev f r) (h : r = r') : Ev f r' := h ▸ e
theorem wrap_up (i : Nat) (h : i ≤ 4611686018427387904) : wrap64 ((i : Int) + 1) = ((i + 1 : Nat) : Int) := by
  unfold wrap64; omega
theorem wrap_in (x : Int) (h0 : -4611686018427387904 ≤ x) (h : x ≤ 4611686018427387904) : wrap64 x = x := by
  unfold wrap64; omega
theorem rd_rdi (ps : List Int) (x : Int) : rd ps x = TP.rdi ps x := rfl
theorem rd_set_same {xs : List Int} {i v : Int} (h0 : 0 ≤ i) (h : i < xs.length) : rd (xs.set i.toNat v) i = v := by
  unfold rd
  rw [List.getD_eq_getElem?_getD, List.getElem?_set_self (by omega)]; rfl
theorem rd_set_ne {xs : List Int} {i j v : Int} (h0 : 0 ≤ i) (hj : 0 ≤ j) (h : i ≠ j) : rd (xs.set i.toNat v) j = rd xs j := by
  unfold rd
  rw [List.getD_eq_getElem?_getD, List.getElem?_set_ne (by omega), ← List.getD_eq_getElem?_getD]
theorem rd_replicate {n : Nat} {i v : Int} (h0 : 0 ≤ i) (h : i < n) : rd (List.replicate n v) i = v := by
  unfold rd
  rw [List.getD_eq_getElem?_getD, List.getElem?_replicate, if_pos (by omega)]; rfl
end Go.Proofs.Ythjcmodhleoocaa.Q
