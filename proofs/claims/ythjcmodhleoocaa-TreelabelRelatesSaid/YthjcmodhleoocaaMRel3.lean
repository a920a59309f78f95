/- The law TreelabelRelates answers true for every input, and each argument reads behind the call as it read before. (Part 3.) -/
import Derived.Test.YthjcmodhleoocaaMRel1
import Derived.Test.YthjcmodhleoocaaMRel2
import Derived.Handy
set_option linter.unusedVariables false
set_option linter.unusedSimpArgs false
/- FCorporalaw10Own -/
namespace Go.Proofs.Ythjcmodhleoocaa.Q
open Go.RowKit Go.Proofs.YthjcmodhleoocaaW.PrintWords Go.Proofs.YthjcmodhleoocaaW.PrintLast Go.Proofs.YthjcmodhleoocaaW.PrintMore
attribute [local go_sem] max2_int min2_int max_two min_two max_three min_three max_four min_four   -- for this text's walks alone
set_option linter.unusedVariables false
set_option linter.unusedSimpArgs false

/-! ### corporalaw10_own: function 17 -/
def corporalaw10_own.l0 : Nat → List (S43) → List (S41) → Int → Int → Option ((List (S43)))
 | 0, _, _, _, _ => none
 | k + 1, x3, x6, x7, x8 => if x8 < x7 then (if 0 ≤ x8 then (if x8 < (x6.length : Int) then (if x3.length < 5864062014805 then (corporalaw10_own.l0 k (x3 ++ [(⟨(rd_T41 x6 x8).f0, (rd_T41 x6 x8).f1, (rd_T41 x6 x8).f2⟩ : S43)]) x6 x7 (wrap64 (x8 + 1))) else (none)) else (none)) else (none)) else (some x3)
def corporalaw10_own.f (k : Nat) (l0 : List (S41)) : Option ((List (S43))) := corporalaw10_own.l0 k ([] : List (S43)) l0 (l0.length : Int) 0
theorem corporalaw10_own.mono_l : ∀ k, (∀ y0 y1 y2 y3, LeO (corporalaw10_own.l0 k y0 y1 y2 y3) (corporalaw10_own.l0 (k + 1) y0 y1 y2 y3))
 | 0 => fun _ _ _ _ r h => by simp [corporalaw10_own.l0] at h
 | k + 1 => by
  have ih0 := corporalaw10_own.mono_l k
  ·intro y0 y1 y2 y3
   unfold corporalaw10_own.l0
   repeat' first
   | (with_reducible exact ih0 _ _ _ _)
   | (with_reducible exact LeO.refl _)
   | (with_reducible exact LeO.none _)
   | (with_reducible refine LeO.ite ?_ ?_)
   | (with_reducible refine LeO.bind ?_ (fun _ => ?_))
   | exact ih0 _ _ _ _
   | exact LeO.none _
   | refine LeO.ite ?_ ?_
   | refine LeO.bind ?_ (fun _ => ?_)
theorem corporalaw10_own.mono : ∀ a0 k, LeO (corporalaw10_own.f k a0) (corporalaw10_own.f (k + 1) a0) := by
 intro a0 k
 have ih0 := corporalaw10_own.mono_l k
 unfold corporalaw10_own.f
 repeat' first
   | (with_reducible exact ih0 _ _ _ _)
   | (with_reducible exact LeO.refl _)
   | (with_reducible exact LeO.none _)
   | (with_reducible refine LeO.ite ?_ ?_)
   | (with_reducible refine LeO.bind ?_ (fun _ => ?_))
   | exact ih0 _ _ _ _
   | exact LeO.none _
   | refine LeO.ite ?_ ?_
   | refine LeO.bind ?_ (fun _ => ?_)
set_option maxHeartbeats 8000000 in
set_option maxRecDepth 100000 in
theorem corporalaw10_own.calls (k : Nat) (A0 : Option Addr) (c0 : Nat) (l0 : List (S41)) (r : List (S43)) (w : World) (hr0 : Kd.C k41 w A0 l0.length l0) (hc0 : l0.length ≤ c0) (h : corporalaw10_own.f k l0 = some r) :
  Calls Try.prog 17 #[.slice A0 l0.length c0] w fun e w' => ∃ v0_ : Value, e = .returned (v0_) ∧ Kd.R k43 43 w' w.heap.size (fun _ => True) v0_ r ∧ Below w.heap.size w w' := by
 have hu41 := Try.underlying41
 have HR0 := Aside0.mk hr0
 have HC0 := Aside0.mk hc0
 clear hr0 hc0
 have HB := Aside0.mk (Below.refl w.heap.size w)
 have H : (corporalaw10_own.l0 k ([] : List (S43)) l0 (l0.length : Int) 0) = some r := h
 clear h
 have H' := Aside0.mk H
 clear H
 go_enter Try.func17, Try.ntmps17
 go_wp2
 go_loopg [3, 8] k (fun kq v3 v8 w' => ∃ (x3_1 : List (S43)) (x8_1 : Int), v8 = .int .i64 x8_1 ∧ Aside0 (corporalaw10_own.l0 kq x3_1 l0 (l0.length : Int) x8_1 = some r) ∧ Aside0 (kq ≤ k) ∧ Aside0 (Kd.R k43 43 w' w.heap.size (fun _ => True) v3 x3_1) ∧ Aside0 (Below w.heap.size w w'))
 case atStart => exact ⟨(([] : List (S43))), (0), (by first | rfl | (simp; done) | (simp [*]; done)), H', ⟨Nat.le_refl _⟩, ⟨by first | exact Kd.R_nil _ _ _ _ _ | exact Kd.N_nil _ _ _ _ _ | exact Kd.V_nil _ _ _ _ _ | exact Kd.Q_nil _ _ _ _ _ | exact Kd.S_nil _ _ _ _ _⟩, ⟨by repeat (first | (with_reducible first | exact HB.out | apply below_alloc | apply pw_below_drewN | apply below_drew1) | exact HB.out)⟩⟩
 case round =>
  clear H'
  try clear c1
  obtain ⟨x3_1, x8_1, rfl, HA, HK1, HO_3, HB⟩ := hrel
  cases gk with
  | zero => exact absurd HA.out (by simp [corporalaw10_own.l0])
  | succ k1 =>
   have H := HA.out
   clear HA
   simp only [corporalaw10_own.l0] at H
   by_cases c2 : x8_1 < (l0.length : Int)
   ·rw [if_pos c2] at H
    have c2b0 : decide (x8_1 < (l0.length : Int)) = true := decide_eq_true c2
    clear c2
    by_cases c3 : 0 ≤ x8_1
    ·rw [if_pos c3] at H
     have c3b0 : decide (0 ≤ x8_1) = true := decide_eq_true c3
     clear c3
     by_cases c4 : x8_1 < (l0.length : Int)
     ·rw [if_pos c4] at H
      have c4b0 : decide (x8_1 < (l0.length : Int)) = true := decide_eq_true c4
      clear c4
      by_cases c5 : x3_1.length < 5864062014805
      ·rw [if_pos c5] at H
       have LMc5 := Aside0.mk c5
       clear c5
       obtain ⟨y239, hy239⟩ : ∃ y_ : List (S43), y_ = (x3_1 ++ [(⟨(rd_T41 l0 x8_1).f0, (rd_T41 l0 x8_1).f1, (rd_T41 l0 x8_1).f2⟩ : S43)]) := ⟨_, rfl⟩
       replace H : (corporalaw10_own.l0 k1 y239 l0 (l0.length : Int) (wrap64 (x8_1 + 1))) = some r := by first | (rw [hy239]; with_reducible exact H) | (have H2_ := (Option.bind_some _ _).symm.trans H; rw [hy239]; with_reducible exact H2_) | (have H2_ := (Option.bind_some _ _).symm.trans H; with_reducible exact H2_) | with_reducible exact H | (rw [hy239]; exact H) | exact H
       have Ny239 := Aside0.mk hy239
       clear hy239
       have H' := Aside0.mk H
       clear H
       have p237 : 0 ≤ (x8_1 : Int) := of_decide_eq_true (by first | (with_reducible assumption) | assumption)
       have q237 : x8_1 < (l0.length : Int) := of_decide_eq_true (by first | (with_reducible assumption) | assumption)
       obtain ⟨ad237, e237, hx237_0, hx237_1, hx237_2⟩ := at_T41 HR0.out x8_1 p237 q237
       cases e237
       replace hx237_0 := (HB.out.cell (World.block_lt_of_cell? w _ hx237_0)).trans hx237_0
       replace hx237_1 := (HB.out.cell (World.block_lt_of_cell? w _ hx237_1)).trans hx237_1
       replace hx237_2 := (HB.out.cell (World.block_lt_of_cell? w _ hx237_2)).trans hx237_2
       replace p237 := eq_true p237
       replace q237 := eq_true q237
       go_wp2_with (first | ((with_reducible refine gate_dst (N := 5) rfl ?_); refine box_event ?hg (N := 5) ?hd (cs := #[.int .i64 0, .int .i64 0, .int .i64 0]) (t := 41) ?hr ?_; (case hd => rfl); (case hg => rfl); (case hr => first | (go_simp; done) | (go_simp; rfl)); intro gb238 hg w6 hbox hb; have n0_ := Aside0.mk (Kd.R_below (by (with_reducible repeat (first | apply Kd.R_alloc | apply Kd.R_drewN | apply Kd.R_drew)); exact HO_3.out) hb); have n1_ := Aside0.mk (below_step (by repeat (first | (with_reducible first | exact HB.out | apply below_alloc | apply pw_below_drewN | apply below_drew1) | exact HB.out)) hb); have n2_ := Aside0.mk (hbox); have n3_ := Aside0.mk ((by rw [hg]; exact (below_size (by repeat (first | (with_reducible first | exact HB.out | apply below_alloc | apply pw_below_drewN | apply below_drew1) | exact HB.out))) : w.heap.size ≤ gb238)); have n4_ := Aside0.mk ((by rw [hg]; exact (below_size (by repeat (first | (with_reducible first | exact HB.out | apply below_alloc | apply pw_below_drewN | apply below_drew1) | exact HB.out))) : w.heap.size ≤ gb238)); clear HO_3; clear HB; have HO_3 := n0_; have HB := n1_; have BK238 := n2_; have GW238 := n3_; have GE238 := n4_; clear n0_ n1_ n2_ n3_ n4_; clear hb hbox hg; have hcz7_0 : w6.cell? ⟨gb238, 0, none⟩ = some (.int .i64 0) := (blk_cell BK238.out 0).trans rfl; have hcz7_1 : w6.cell? ⟨gb238, 1, none⟩ = some (.int .i64 0) := (blk_cell BK238.out 1).trans rfl; have hcz7_2 : w6.cell? ⟨gb238, 2, none⟩ = some (.int .i64 0) := (blk_cell BK238.out 2).trans rfl; have hfz7_0 := blk_frozen BK238.out 0; have hfz7_1 := blk_frozen BK238.out 1; have hfz7_2 := blk_frozen BK238.out 2) | ((with_reducible refine gate_builtin (b := .append) (xs := #[.tmp 12, .tmp 14]) rfl ?_); at_builtin; refine Kd.R_append k43 (w0 := w) w.heap.size rfl (.tmp 12) (.tmp 14) 27 43 (.agg #[(.int .i64 0), (.int .i64 0), (.int .i64 0)]) 24 rfl Try.underlying27 info43 rfl (by decide) (by omega) u3 x3_1 (⟨(rd_T41 l0 x8_1).f0, (rd_T41 l0 x8_1).f1, (rd_T41 l0 x8_1).f2⟩ : S43) [.int .i64 ((rd_T41 l0 x8_1).f0), .int .i64 ((rd_T41 l0 x8_1).f1), .int .i64 ((rd_T41 l0 x8_1).f2)] (fun _ => True) (fun _ => False) rfl (by first | (go_simp; done) | (go_simp; rfl)) ?aP (fun _ hk => hk.elim) ?aF ?aO ?aB ?aS ?aL ?_; (case aP => exact k43_mkM _ _ _ (⟨(rd_T41 l0 x8_1).f0, (rd_T41 l0 x8_1).f1, (rd_T41 l0 x8_1).f2⟩ : S43)); (case aB => exact (by repeat (first | (with_reducible first | exact HB.out | apply below_alloc | apply pw_below_drewN | apply below_drew1 | refine below_set ?_ GE238.out) | exact HB.out))); (case aF => exact (fun _ _ => trivial)); (case aO => exact (by (with_reducible repeat (first | apply Kd.R_alloc | apply Kd.R_drewN | apply Kd.R_drew)); exact Kd.R_mono (Kd.R_far (p := ⟨gb238, 2, none⟩) (Kd.R_far (p := ⟨gb238, 1, none⟩) (Kd.R_far (p := ⟨gb238, 0, none⟩) (Kd.R_types HO_3.out BK238.out (by decide)) (fun _ hk => hk.2) (.int .i64 ((rd_T41 l0 x8_1).f0))) (fun _ hk => hk.2) (.int .i64 ((rd_T41 l0 x8_1).f1))) (fun _ hk => hk.2) (.int .i64 ((rd_T41 l0 x8_1).f2))) (fun _ hk => trivial))); (case aS => exact (below_size (by repeat (first | (with_reducible first | exact HB.out | apply below_alloc | apply pw_below_drewN | apply below_drew1 | refine below_set ?_ GE238.out) | exact HB.out)))); (case aL => have := LMc5.out; omega); intro v240 w8 ho hb hg hat; rw [← Ny239.out] at ho; have n0_ := Aside0.mk (blk_grown (g := gb238) (o := .cells #[.int .i64 ((rd_T41 l0 x8_1).f0), .int .i64 ((rd_T41 l0 x8_1).f1), .int .i64 ((rd_T41 l0 x8_1).f2)] 41 (0, 0)) (by (with_reducible repeat (first | refine blk_drewN ?_ _ | refine blk_drew ?_ | refine blk_alloc ?_ _)); refine blk_put (cs := #[.int .i64 ((rd_T41 l0 x8_1).f0), .int .i64 ((rd_T41 l0 x8_1).f1), .int .i64 0]) ?_ 2 _ rfl; (with_reducible repeat (first | refine blk_drewN ?_ _ | refine blk_drew ?_ | refine blk_alloc ?_ _)); refine blk_put (cs := #[.int .i64 ((rd_T41 l0 x8_1).f0), .int .i64 0, .int .i64 0]) ?_ 1 _ rfl; (with_reducible repeat (first | refine blk_drewN ?_ _ | refine blk_drew ?_ | refine blk_alloc ?_ _)); refine blk_put (cs := #[.int .i64 0, .int .i64 0, .int .i64 0]) ?_ 0 _ rfl; (with_reducible repeat (first | refine blk_drewN ?_ _ | refine blk_drew ?_ | refine blk_alloc ?_ _)); exact BK238.out) hg (Kd.R_ne HO_3.out BK238.out (by decide))); have n1_ := Aside0.mk (hb); have n2_ := Aside0.mk (ho); clear BK238; clear HB; clear HO_3; have BK238 := n0_; have HB := n1_; have HO241 := n2_; clear n0_ n1_ n2_; clear ho hb hg hat))
       go_roundg k1
       case measure => have := HK1.out; omega
       case rel => exact ⟨(y239), (wrap64 (x8_1 + 1)), (by first | rfl | (simp; done) | (simp [*]; done)), H', ⟨by have := HK1.out; omega⟩, ⟨by (with_reducible repeat (first | apply Kd.R_alloc | apply Kd.R_drewN | apply Kd.R_drew)); exact HO241.out⟩, ⟨by repeat (first | (with_reducible first | exact HB.out | apply below_alloc | apply pw_below_drewN | apply below_drew1 | refine below_set ?_ GE238.out) | exact HB.out)⟩⟩
      ·rw [if_neg c5] at H
       exact absurd H (by simp)
     ·rw [if_neg c4] at H
      exact absurd H (by simp)
    ·rw [if_neg c3] at H
     exact absurd H (by simp)
   ·rw [if_neg c2] at H
    have c2b0 : decide (x8_1 < (l0.length : Int)) = false := decide_eq_false c2
    clear c2
    obtain rfl := Option.some.inj H
    go_wp2
    go_ret
    exact ⟨_, by first | rfl | (simp [errW_none, errW_some] <;> rfl) | (simp [*, errW_none, errW_some] <;> rfl), by (with_reducible repeat (first | apply Kd.R_alloc | apply Kd.R_drewN | apply Kd.R_drew)); exact HO_3.out, by repeat (first | (with_reducible first | exact HB.out | apply below_alloc | apply pw_below_drewN | apply below_drew1) | exact HB.out)⟩

end Go.Proofs.Ythjcmodhleoocaa.Q
/- FTreelabelSisters -/
namespace Go.Proofs.Ythjcmodhleoocaa.Q
open Go.RowKit Go.Proofs.YthjcmodhleoocaaW.PrintWords Go.Proofs.YthjcmodhleoocaaW.PrintLast Go.Proofs.YthjcmodhleoocaaW.PrintMore
attribute [local go_sem] max2_int min2_int max_two min_two max_three min_three max_four min_four   -- for this text's walks alone
set_option linter.unusedVariables false
set_option linter.unusedSimpArgs false

/-! ### treelabel_Sisters: function 24 -/
def treelabel_Sisters.f (k : Nat) (l0 : List (S41)) (a1 : Int) (a2 : Int) : Option (Bool) := (treelabel_parentsOf.f k l0 a1 a2).bind fun bt316 => (if bt316.2 = true then (if a1 = a2 then (some false) else (if 0 ≤ a1 then (if a1 < (bt316.1.length : Int) then (if 0 ≤ a2 then (if a2 < (bt316.1.length : Int) then (some ((rd bt316.1 a1) == (rd bt316.1 a2))) else (none)) else (none)) else (none)) else (none))) else (some false))
theorem treelabel_Sisters.mono : ∀ a0 a1 a2 k, LeO (treelabel_Sisters.f k a0 a1 a2) (treelabel_Sisters.f (k + 1) a0 a1 a2) := by
 intro a0 a1 a2 k
 unfold treelabel_Sisters.f
 repeat' first
   | (with_reducible exact treelabel_parentsOf.mono _ _ _ _)
   | (with_reducible exact LeO.refl _)
   | (with_reducible exact LeO.none _)
   | (with_reducible refine LeO.ite ?_ ?_)
   | (with_reducible refine LeO.bind ?_ (fun _ => ?_))
   | exact treelabel_parentsOf.mono _ _ _ _
   | exact LeO.none _
   | refine LeO.ite ?_ ?_
   | refine LeO.bind ?_ (fun _ => ?_)
set_option maxHeartbeats 8000000 in
set_option maxRecDepth 100000 in
theorem treelabel_Sisters.calls (k : Nat) (A0 : Option Addr) (c0 : Nat) (l0 : List (S41)) (a1 : Int) (a2 : Int) (r : Bool) (w : World) (hr0 : Kd.C k41 w A0 l0.length l0) (hc0 : l0.length ≤ c0) (h : treelabel_Sisters.f k l0 a1 a2 = some r) :
  Calls Try.prog 24 #[.slice A0 l0.length c0, .int .i64 a1, .int .i64 a2] w fun e w' => e = .returned (.bool r) ∧ Below w.heap.size w w' := by
 have HR0 := Aside0.mk hr0
 have HC0 := Aside0.mk hc0
 clear hr0 hc0
 have HB := Aside0.mk (Below.refl w.heap.size w)
 have H : ((treelabel_parentsOf.f k l0 a1 a2).bind fun bt316 => (if bt316.2 = true then (if a1 = a2 then (some false) else (if 0 ≤ a1 then (if a1 < (bt316.1.length : Int) then (if 0 ≤ a2 then (if a2 < (bt316.1.length : Int) then (some ((rd bt316.1 a1) == (rd bt316.1 a2))) else (none)) else (none)) else (none)) else (none))) else (some false))) = some r := h
 clear h
 replace H := Option.bind_eq_some_iff.mp H
 obtain ⟨⟨t316, t317⟩, A40, H⟩ := H
 replace H : (if t317 = true then (if a1 = a2 then (some false) else (if 0 ≤ a1 then (if a1 < (t316.length : Int) then (if 0 ≤ a2 then (if a2 < (t316.length : Int) then (some ((rd t316 a1) == (rd t316 a2))) else (none)) else (none)) else (none)) else (none))) else (some false)) = some r := H
 have A4 := Aside0.mk A40
 clear A40
 by_cases c5 : t317 = true
 ·subst c5
  have H1 : (if a1 = a2 then (some false) else (if 0 ≤ a1 then (if a1 < (t316.length : Int) then (if 0 ≤ a2 then (if a2 < (t316.length : Int) then (some ((rd t316 a1) == (rd t316 a2))) else (none)) else (none)) else (none)) else (none))) = some r := by rw [if_pos rfl] at H; exact H
  clear H
  have H := H1
  clear H1
  by_cases c6 : a1 = a2
  ·rw [if_pos c6] at H
   have c6b0 : (a1 == a2) = true := beq_iff_eq.mpr c6
   have c6b1 : (a1 != a2) = false := bne_eq_false_iff_eq.mpr c6
   clear c6
   obtain rfl := Option.some.inj H
   go_enter Try.func24, Try.ntmps24
   go_wp2_with (first | (go_at_call 36; (with_reducible refine (treelabel_parentsOf.calls k _ _ l0 a1 a2 t316 true _ ?side1 ?side2 A4.out).mono ?_); (case side1 => repeat (first | exact HR0.out | (with_reducible refine Kd.C_alloc ?_ _) | (with_reducible refine Kd.C_drewN ?_ _) | (with_reducible refine Kd.C_drew ?_))); (case side2 => exact HC0.out); rintro e w7 ⟨v318, rfl, ho0, hb⟩; have n0_ := Aside0.mk (Kd.R_lower ho0 (below_size (by repeat (first | (with_reducible first | exact HB.out | apply below_alloc | apply pw_below_drewN | apply below_drew1) | exact HB.out)))); have n1_ := Aside0.mk (below_step (by repeat (first | (with_reducible first | exact HB.out | apply below_alloc | apply pw_below_drewN | apply below_drew1) | exact HB.out)) hb); clear HB; have HO319 := n0_; have HB := n1_; clear n0_ n1_; (try clear hb); (try clear hb2); (try clear hk); (try clear hi); (try clear ho0)))
   repeat (go_quiet (first | (go_at_call 36; (with_reducible refine (treelabel_parentsOf.calls k _ _ l0 a1 a2 t316 true _ ?side1 ?side2 A4.out).mono ?_); (case side1 => repeat (first | exact HR0.out | (with_reducible refine Kd.C_alloc ?_ _) | (with_reducible refine Kd.C_drewN ?_ _) | (with_reducible refine Kd.C_drew ?_))); (case side2 => exact HC0.out); rintro e w7 ⟨v318, rfl, ho0, hb⟩; have n0_ := Aside0.mk (Kd.R_lower ho0 (below_size (by repeat (first | (with_reducible first | exact HB.out | apply below_alloc | apply pw_below_drewN | apply below_drew1) | exact HB.out)))); have n1_ := Aside0.mk (below_step (by repeat (first | (with_reducible first | exact HB.out | apply below_alloc | apply pw_below_drewN | apply below_drew1) | exact HB.out)) hb); clear HB; have HO319 := n0_; have HB := n1_; clear n0_ n1_; (try clear hb); (try clear hb2); (try clear hk); (try clear hi); (try clear ho0))); try go_wp2_with (first | (go_at_call 36; (with_reducible refine (treelabel_parentsOf.calls k _ _ l0 a1 a2 t316 true _ ?side1 ?side2 A4.out).mono ?_); (case side1 => repeat (first | exact HR0.out | (with_reducible refine Kd.C_alloc ?_ _) | (with_reducible refine Kd.C_drewN ?_ _) | (with_reducible refine Kd.C_drew ?_))); (case side2 => exact HC0.out); rintro e w7 ⟨v318, rfl, ho0, hb⟩; have n0_ := Aside0.mk (Kd.R_lower ho0 (below_size (by repeat (first | (with_reducible first | exact HB.out | apply below_alloc | apply pw_below_drewN | apply below_drew1) | exact HB.out)))); have n1_ := Aside0.mk (below_step (by repeat (first | (with_reducible first | exact HB.out | apply below_alloc | apply pw_below_drewN | apply below_drew1) | exact HB.out)) hb); clear HB; have HO319 := n0_; have HB := n1_; clear n0_ n1_; (try clear hb); (try clear hb2); (try clear hk); (try clear hi); (try clear ho0))))
   go_ret
   exact ⟨by first | rfl | (simp [errW_none, errW_some] <;> rfl) | (simp [*, errW_none, errW_some] <;> rfl), by repeat (first | (with_reducible first | exact HB.out | apply below_alloc | apply pw_below_drewN | apply below_drew1) | exact HB.out)⟩
  ·rw [if_neg c6] at H
   have c6b0 : (a1 == a2) = false := beq_eq_false_iff_ne.mpr c6
   have c6b1 : (a1 != a2) = true := bne_iff_ne.mpr c6
   by_cases c8 : 0 ≤ a1
   ·rw [if_pos c8] at H
    have c8b0 : decide (0 ≤ a1) = true := decide_eq_true c8
    clear c8
    by_cases c9 : a1 < (t316.length : Int)
    ·rw [if_pos c9] at H
     have c9b0 : decide (a1 < (t316.length : Int)) = true := decide_eq_true c9
     clear c9
     by_cases c10 : 0 ≤ a2
     ·rw [if_pos c10] at H
      have c10b0 : decide (0 ≤ a2) = true := decide_eq_true c10
      clear c10
      by_cases c11 : a2 < (t316.length : Int)
      ·rw [if_pos c11] at H
       have c11b0 : decide (a2 < (t316.length : Int)) = true := decide_eq_true c11
       clear c11
       obtain rfl := Option.some.inj H
       go_enter Try.func24, Try.ntmps24
       go_wp2_with (first | (go_at_call 36; (with_reducible refine (treelabel_parentsOf.calls k _ _ l0 a1 a2 t316 true _ ?side1 ?side2 A4.out).mono ?_); (case side1 => repeat (first | exact HR0.out | (with_reducible refine Kd.C_alloc ?_ _) | (with_reducible refine Kd.C_drewN ?_ _) | (with_reducible refine Kd.C_drew ?_))); (case side2 => exact HC0.out); rintro e w12 ⟨v318, rfl, ho0, hb⟩; have n0_ := Aside0.mk (Kd.R_lower ho0 (below_size (by repeat (first | (with_reducible first | exact HB.out | apply below_alloc | apply pw_below_drewN | apply below_drew1) | exact HB.out)))); have n1_ := Aside0.mk (below_step (by repeat (first | (with_reducible first | exact HB.out | apply below_alloc | apply pw_below_drewN | apply below_drew1) | exact HB.out)) hb); clear HB; have HO319 := n0_; have HB := n1_; clear n0_ n1_; (try clear hb); (try clear hb2); (try clear hk); (try clear hi); (try clear ho0); obtain ⟨Ao13, co13, eo13⟩ := Kd.R_slice HO319.out; subst eo13; have p320 : 0 ≤ (a1 : Int) := of_decide_eq_true (by first | (with_reducible assumption) | assumption); have q320 : a1 < (t316.length : Int) := of_decide_eq_true (by first | (with_reducible assumption) | assumption); obtain ⟨ad320, e320, hx320_0⟩ := Kd.at_int (Kd.R_reads' HO319.out).2.2 a1 p320 q320; cases e320; replace p320 := eq_true p320; replace q320 := eq_true q320; have p321 : 0 ≤ (a2 : Int) := of_decide_eq_true (by first | (with_reducible assumption) | assumption); have q321 : a2 < (t316.length : Int) := of_decide_eq_true (by first | (with_reducible assumption) | assumption); obtain ⟨ad321, e321, hx321_0⟩ := Kd.at_int (Kd.R_reads' HO319.out).2.2 a2 p321 q321; obtain rfl : ad320 = ad321 := (by injection e321); replace p321 := eq_true p321; replace q321 := eq_true q321))
       repeat (go_quiet (first | (go_at_call 36; (with_reducible refine (treelabel_parentsOf.calls k _ _ l0 a1 a2 t316 true _ ?side1 ?side2 A4.out).mono ?_); (case side1 => repeat (first | exact HR0.out | (with_reducible refine Kd.C_alloc ?_ _) | (with_reducible refine Kd.C_drewN ?_ _) | (with_reducible refine Kd.C_drew ?_))); (case side2 => exact HC0.out); rintro e w12 ⟨v318, rfl, ho0, hb⟩; have n0_ := Aside0.mk (Kd.R_lower ho0 (below_size (by repeat (first | (with_reducible first | exact HB.out | apply below_alloc | apply pw_below_drewN | apply below_drew1) | exact HB.out)))); have n1_ := Aside0.mk (below_step (by repeat (first | (with_reducible first | exact HB.out | apply below_alloc | apply pw_below_drewN | apply below_drew1) | exact HB.out)) hb); clear HB; have HO319 := n0_; have HB := n1_; clear n0_ n1_; (try clear hb); (try clear hb2); (try clear hk); (try clear hi); (try clear ho0); obtain ⟨Ao13, co13, eo13⟩ := Kd.R_slice HO319.out; subst eo13; have p320 : 0 ≤ (a1 : Int) := of_decide_eq_true (by first | (with_reducible assumption) | assumption); have q320 : a1 < (t316.length : Int) := of_decide_eq_true (by first | (with_reducible assumption) | assumption); obtain ⟨ad320, e320, hx320_0⟩ := Kd.at_int (Kd.R_reads' HO319.out).2.2 a1 p320 q320; cases e320; replace p320 := eq_true p320; replace q320 := eq_true q320; have p321 : 0 ≤ (a2 : Int) := of_decide_eq_true (by first | (with_reducible assumption) | assumption); have q321 : a2 < (t316.length : Int) := of_decide_eq_true (by first | (with_reducible assumption) | assumption); obtain ⟨ad321, e321, hx321_0⟩ := Kd.at_int (Kd.R_reads' HO319.out).2.2 a2 p321 q321; obtain rfl : ad320 = ad321 := (by injection e321); replace p321 := eq_true p321; replace q321 := eq_true q321)); try go_wp2_with (first | (go_at_call 36; (with_reducible refine (treelabel_parentsOf.calls k _ _ l0 a1 a2 t316 true _ ?side1 ?side2 A4.out).mono ?_); (case side1 => repeat (first | exact HR0.out | (with_reducible refine Kd.C_alloc ?_ _) | (with_reducible refine Kd.C_drewN ?_ _) | (with_reducible refine Kd.C_drew ?_))); (case side2 => exact HC0.out); rintro e w12 ⟨v318, rfl, ho0, hb⟩; have n0_ := Aside0.mk (Kd.R_lower ho0 (below_size (by repeat (first | (with_reducible first | exact HB.out | apply below_alloc | apply pw_below_drewN | apply below_drew1) | exact HB.out)))); have n1_ := Aside0.mk (below_step (by repeat (first | (with_reducible first | exact HB.out | apply below_alloc | apply pw_below_drewN | apply below_drew1) | exact HB.out)) hb); clear HB; have HO319 := n0_; have HB := n1_; clear n0_ n1_; (try clear hb); (try clear hb2); (try clear hk); (try clear hi); (try clear ho0); obtain ⟨Ao13, co13, eo13⟩ := Kd.R_slice HO319.out; subst eo13; have p320 : 0 ≤ (a1 : Int) := of_decide_eq_true (by first | (with_reducible assumption) | assumption); have q320 : a1 < (t316.length : Int) := of_decide_eq_true (by first | (with_reducible assumption) | assumption); obtain ⟨ad320, e320, hx320_0⟩ := Kd.at_int (Kd.R_reads' HO319.out).2.2 a1 p320 q320; cases e320; replace p320 := eq_true p320; replace q320 := eq_true q320; have p321 : 0 ≤ (a2 : Int) := of_decide_eq_true (by first | (with_reducible assumption) | assumption); have q321 : a2 < (t316.length : Int) := of_decide_eq_true (by first | (with_reducible assumption) | assumption); obtain ⟨ad321, e321, hx321_0⟩ := Kd.at_int (Kd.R_reads' HO319.out).2.2 a2 p321 q321; obtain rfl : ad320 = ad321 := (by injection e321); replace p321 := eq_true p321; replace q321 := eq_true q321)))
       go_ret
       exact ⟨by first | rfl | (simp [errW_none, errW_some] <;> rfl) | (simp [*, errW_none, errW_some] <;> rfl), by repeat (first | (with_reducible first | exact HB.out | apply below_alloc | apply pw_below_drewN | apply below_drew1) | exact HB.out)⟩
      ·rw [if_neg c11] at H
       exact absurd H (by simp)
     ·rw [if_neg c10] at H
      exact absurd H (by simp)
    ·rw [if_neg c9] at H
     exact absurd H (by simp)
   ·rw [if_neg c8] at H
    exact absurd H (by simp)
 ·replace c5 := Bool.eq_false_iff.mpr c5
  subst c5
  have H1 : (some false) = some r := by rw [if_neg (show ¬ (false = true) by decide)] at H; exact H
  clear H
  have H := H1
  clear H1
  obtain rfl := Option.some.inj H
  go_enter Try.func24, Try.ntmps24
  go_wp2_with (first | (go_at_call 36; (with_reducible refine (treelabel_parentsOf.calls k _ _ l0 a1 a2 t316 false _ ?side1 ?side2 A4.out).mono ?_); (case side1 => repeat (first | exact HR0.out | (with_reducible refine Kd.C_alloc ?_ _) | (with_reducible refine Kd.C_drewN ?_ _) | (with_reducible refine Kd.C_drew ?_))); (case side2 => exact HC0.out); rintro e w14 ⟨v318, rfl, ho0, hb⟩; have n0_ := Aside0.mk (Kd.R_lower ho0 (below_size (by repeat (first | (with_reducible first | exact HB.out | apply below_alloc | apply pw_below_drewN | apply below_drew1) | exact HB.out)))); have n1_ := Aside0.mk (below_step (by repeat (first | (with_reducible first | exact HB.out | apply below_alloc | apply pw_below_drewN | apply below_drew1) | exact HB.out)) hb); clear HB; have HO319 := n0_; have HB := n1_; clear n0_ n1_; (try clear hb); (try clear hb2); (try clear hk); (try clear hi); (try clear ho0)))
  repeat (go_quiet (first | (go_at_call 36; (with_reducible refine (treelabel_parentsOf.calls k _ _ l0 a1 a2 t316 false _ ?side1 ?side2 A4.out).mono ?_); (case side1 => repeat (first | exact HR0.out | (with_reducible refine Kd.C_alloc ?_ _) | (with_reducible refine Kd.C_drewN ?_ _) | (with_reducible refine Kd.C_drew ?_))); (case side2 => exact HC0.out); rintro e w14 ⟨v318, rfl, ho0, hb⟩; have n0_ := Aside0.mk (Kd.R_lower ho0 (below_size (by repeat (first | (with_reducible first | exact HB.out | apply below_alloc | apply pw_below_drewN | apply below_drew1) | exact HB.out)))); have n1_ := Aside0.mk (below_step (by repeat (first | (with_reducible first | exact HB.out | apply below_alloc | apply pw_below_drewN | apply below_drew1) | exact HB.out)) hb); clear HB; have HO319 := n0_; have HB := n1_; clear n0_ n1_; (try clear hb); (try clear hb2); (try clear hk); (try clear hi); (try clear ho0))); try go_wp2_with (first | (go_at_call 36; (with_reducible refine (treelabel_parentsOf.calls k _ _ l0 a1 a2 t316 false _ ?side1 ?side2 A4.out).mono ?_); (case side1 => repeat (first | exact HR0.out | (with_reducible refine Kd.C_alloc ?_ _) | (with_reducible refine Kd.C_drewN ?_ _) | (with_reducible refine Kd.C_drew ?_))); (case side2 => exact HC0.out); rintro e w14 ⟨v318, rfl, ho0, hb⟩; have n0_ := Aside0.mk (Kd.R_lower ho0 (below_size (by repeat (first | (with_reducible first | exact HB.out | apply below_alloc | apply pw_below_drewN | apply below_drew1) | exact HB.out)))); have n1_ := Aside0.mk (below_step (by repeat (first | (with_reducible first | exact HB.out | apply below_alloc | apply pw_below_drewN | apply below_drew1) | exact HB.out)) hb); clear HB; have HO319 := n0_; have HB := n1_; clear n0_ n1_; (try clear hb); (try clear hb2); (try clear hk); (try clear hi); (try clear ho0))))
  go_ret
  exact ⟨by first | rfl | (simp [errW_none, errW_some] <;> rfl) | (simp [*, errW_none, errW_some] <;> rfl), by repeat (first | (with_reducible first | exact HB.out | apply below_alloc | apply pw_below_drewN | apply below_drew1) | exact HB.out)⟩

end Go.Proofs.Ythjcmodhleoocaa.Q
/- QEq43 -/
namespace Go.Proofs.Ythjcmodhleoocaa.Q
open Go.RowKit Go.Proofs.YthjcmodhleoocaaW.PrintWords Go.Proofs.YthjcmodhleoocaaW.PrintLast Go.Proofs.YthjcmodhleoocaaW.PrintMore
attribute [local go_sem] max2_int min2_int max_two min_two max_three min_three max_four min_four   -- for this text's walks alone
set_option linter.unusedVariables false
set_option linter.unusedSimpArgs false

theorem eqA43 (d : Nat) (w : World) (x0 y0 : Int) (x1 y1 : Int) (x2 y2 : Int) :
    (Op.equalIn (d + 2) 43 (.agg #[.int .i64 x0, .int .i64 x1, .int .i64 x2]) (.agg #[.int .i64 y0, .int .i64 y1, .int .i64 y2])).run Try.prog w = .ok (x0 == y0 && (x1 == y1 && (x2 == y2))) w := by
  refine eqA_of Try.underlying43 (by kernel_rfl) ?_
  refine eqf_cons (by rfl) (by go_simp; rfl) (by go_simp; rfl) (by go_simp) ?_
  refine eqf_cons (by rfl) (by go_simp; rfl) (by go_simp; rfl) (by go_simp) ?_
  exact eqf_last (by rfl) (by go_simp; rfl) (by go_simp; rfl) (by go_simp)
end Go.Proofs.Ythjcmodhleoocaa.Q
/- Walk -/
namespace Go.Proofs.Ythjcmodhleoocaa.Q
open Go.RowKit Go.Proofs.YthjcmodhleoocaaW.PrintWords Go.Proofs.YthjcmodhleoocaaW.PrintLast Go.Proofs.YthjcmodhleoocaaW.PrintMore
open Go.Proofs.Ythjcmodhleoocaa.TP
theorem add_block (ad : Addr) (j : Nat) : (ad.add j).block = ad.block := by unfold Addr.add; split <;> rfl
set_option maxRecDepth 100000 in
set_option maxHeartbeats 4000000 in
theorem walk_calls {W0 : World} {g gl n cap cp : Nat} {Ap : Option Addr} {ps : List Int} (hn : ps.length = n) (hn' : n ≤ 1000000)
    (hps : 0 < n → ∃ ad, Ap = some ad ∧ ad.block ≠ g ∧ ad.block ≠ gl ∧ ∀ j, j < n → W0.cell? (ad.add j) = some (.int .i64 (ps.getD j 0))) (k : Nat) :
    ∀ (d : Nat) (p y : Int) (s t : NS) (W : World), y = d → visL ps k (kidsOf ps p) d s = some t → s.L.length = n → t.pre ≤ 1000000 → t.post ≤ 1000000 → d + k ≤ 1000000 →
    VS 61 43 (.slice Ap n cp) g gl n cap W0 W s →
    Calls Try.prog 34 #[.pointer (some ⟨g, 0, none⟩), .int .i64 p, .int .i64 y] W fun e w' => e = .returned (.tuple #[]) ∧ VS 61 43 (.slice Ap n cp) g gl n cap W0 w' t := by
  induction k using Nat.strongRecOn with
  | _ k ih =>
    intro d p y s t W hy h hL hp hq hd hV
    subst hy
    have HF := Aside0.mk h
    have HN := Aside0.mk hn
    have HPS := Aside0.mk hps
    have HIH := Aside0.mk ih
    have HLs := Aside0.mk hL
    have HV := Aside0.mk hV
    have c0 := hV.cell 0
    have hu61 := Try.underlying61
    have hu43 := Try.underlying43
    simp at c0
    clear h hn hps ih hL hV
    go_enter Try.func34, Try.ntmps34
    go_wp2
    go_loopg [13] n (fun kq v13 wr => ∃ (j : Nat) (sj : NS), v13 = .int .i64 (j : Int) ∧ j ≤ n ∧ Aside0 (kq + j = n) ∧ Aside0 (visL ps k (kidsFrom ps p j) d sj = some t) ∧ Aside0 (sj.L.length = n) ∧ Aside0 (VS 61 43 (.slice Ap n cp) g gl n cap W0 wr sj))
    case atStart => exact ⟨0, s, rfl, Nat.zero_le _, ⟨rfl⟩, HF, HLs, HV⟩
    case round =>
      clear HV c0
      obtain ⟨j, sj, rfl, hj, HK, HFj, HLj, HVj⟩ := hrel
      by_cases hlt : j < n
      · obtain ⟨ad, rfl, hag, hal, hac⟩ := HPS.out (by omega)
        have hcell : wr.cell? (ad.add j) = some (.int .i64 (ps.getD j 0)) := (HVj.out.far hag hal (add_block ad j)).trans (hac j hlt)
        clear hac
        by_cases hhit : ps.getD j 0 = p
        · have hfj := HFj.out
          rw [kidsFrom_hit ps p j (by rw [HN.out]; exact hlt) hhit, visL_cons] at hfj
          cases hv : vis (kd ps) k j d sj with
          | none => rw [hv] at hfj; cases hfj
          | some m =>
          rw [hv] at hfj
          obtain ⟨k', rfl⟩ : ∃ k', k = k' + 1 := by
            cases k with
            | zero => cases hv
            | succ k' => exact ⟨k', rfl⟩
          have hup := vis_up _ _ _ _ _ hv
          have hup' := visL_up _ _ _ hfj
          rw [vis_succ, if_pos (by rw [HLj.out]; exact hlt)] at hv
          cases hw : visL ps k' (kd ps j) (d + 1) (enter j d sj) with
          | none => rw [hw] at hv; cases hv
          | some m1 =>
          rw [hw] at hv
          obtain rfl := Option.some.inj hv
          have hup1 := visL_up _ _ _ hw
          have Hw := Aside0.mk hw
          have Hf := Aside0.mk hfj
          obtain ⟨p0, p1, p2, l0, l1, l2⟩ := HVj.out.lab j (by rw [HLj.out]; exact hlt)
          have m0 := HVj.out.labfree (j * 3)
          have m2 := HVj.out.labfree (j * 3 + 2)
          have c1 := HVj.out.cell 1
          have c2 := HVj.out.cell 2
          have f2 := HVj.out.free 2
          have hne := HVj.out.ne
          have HE := Aside0.mk (HVj.out.drew.enter j d)
          have HLe := Aside0.mk ((enter_len j d sj).trans HLj.out)
          have HLm := Aside0.mk (hup.1.trans HLj.out)
          have HLm1 := Aside0.mk ((hup1.1.trans (enter_len j d sj)).trans HLj.out)
          have b1 : sj.pre ≤ 1000000 := by have := hup.2.1; have := hup'.2.1; omega
          have b2 : m1.pre ≤ 1000000 := by have := hup'.2.1; simp only [leave] at this; omega
          have b3 : m1.post + 1 ≤ 1000000 := by have := hup'.2.2.1; simp only [leave] at this; omega
          have HHit := Aside0.mk hhit
          rw [hhit] at hcell
          simp at c1 c2
          clear hv hw hfj hup hup' hup1 hhit HFj
          go_wp2
          go_region
          go_wp2_with (go_at_call 34; refine (HIH.out k' (by omega) (d + 1) _ _ _ m1 _ (by omega) Hw.out HLe.out b2 (by omega) (by omega) HE.out).mono ?_; rintro e w1 ⟨rfl, hV1⟩; have HV1 := Aside0.mk hV1; clear hV1)
          clear c1 c2 f2 m0 m2 l0 l1 l2 hcell
          obtain ⟨q0, q1, q2, l0, l1, l2⟩ := HV1.out.lab j (by rw [HLm1.out]; exact hlt)
          have m1' := HV1.out.labfree (j * 3 + 1)
          have c1 := HV1.out.cell 1
          have c3 := HV1.out.cell 3
          have f3 := HV1.out.free 3
          have HE2 := Aside0.mk (HV1.out.drew.leave j)
          simp at c1 c3
          clear HE HV1
          go_region
          go_wp2
          go_roundg (n - (j + 1))
          case measure => have := HK.out; omega
          case rel => exact ⟨j + 1, leave j m1, by go_num, by omega, ⟨by omega⟩, Hf, HLm, HE2⟩
        · have hfj := HFj.out
          rw [kidsFrom_miss ps p j (by rw [HN.out]; exact hlt) hhit] at hfj
          have Hf := Aside0.mk hfj
          obtain ⟨q, hq'⟩ : ∃ q, ps.getD j 0 = q := ⟨_, rfl⟩
          rw [hq'] at hcell hhit
          have htest : (q != p) = true := by rw [bne_iff_ne]; exact hhit
          clear hq' hhit hfj HFj
          go_wp2
          go_roundg (n - (j + 1))
          case measure => have := HK.out; omega
          case rel => exact ⟨j + 1, sj, by go_num, by omega, ⟨by omega⟩, Hf, HLj, HVj⟩
      · have hfe := HFj.out
        rw [kidsFrom_end ps p j (by rw [HN.out]; omega), visL_nil] at hfe
        obtain rfl := Option.some.inj hfe
        clear HFj hfe
        go_wp2
        go_end0
        exact ⟨rfl, HVj.out⟩
end Go.Proofs.Ythjcmodhleoocaa.Q
/- WalkNew -/
namespace Go.Proofs.Ythjcmodhleoocaa.Q
open Go.RowKit Go.Proofs.YthjcmodhleoocaaW.PrintWords Go.Proofs.YthjcmodhleoocaaW.PrintLast Go.Proofs.YthjcmodhleoocaaW.PrintMore
open Go.Proofs.Ythjcmodhleoocaa.TP

/-- The labels of a list of parents: the numbering from the roots, where it stays small. -/
def numL (k : Nat) (ps : List Int) : Option (List Lab) :=
  if ps.length ≤ 1000000 then
    match visL ps (lim k) (kidsOf ps (-1)) 0 (blank ps.length) with
    | some t => if t.pre ≤ 1000000 ∧ t.post ≤ 1000000 then some t.L else none
    | none => none
  else none
theorem numL_some {k : Nat} {ps : List Int} {L : List Lab} (h : numL k ps = some L) : ps.length ≤ 1000000 ∧ ∃ t, visL ps (lim k) (kidsOf ps (-1)) 0 (blank ps.length) = some t ∧ t.pre ≤ 1000000 ∧ t.post ≤ 1000000 ∧ t.L = L := by
  unfold numL at h
  split at h
  case isFalse => cases h
  case isTrue hc =>
  cases hv : visL ps (lim k) (kidsOf ps (-1)) 0 (blank ps.length) with
  | none => rw [hv] at h; cases h
  | some t =>
    rw [hv] at h
    simp only at h
    split at h
    case isFalse => cases h
    case isTrue hp =>
    exact ⟨hc, t, rfl, hp.1, hp.2, Option.some.inj h⟩

theorem numL_of {k : Nat} {ps : List Int} {t : NS} (h1 : ps.length ≤ 1000000) (h : visL ps (lim k) (kidsOf ps (-1)) 0 (blank ps.length) = some t) (hp : t.pre ≤ 1000000) (hq : t.post ≤ 1000000) : numL k ps = some t.L := by
  unfold numL
  rw [if_pos h1, h]
  simp only
  rw [if_pos ⟨hp, hq⟩]
theorem numL_mono (k : Nat) (ps : List Int) : LeO (numL k ps) (numL (k + 1) ps) := by
  intro L h
  obtain ⟨h1, t, hv, hp, hq, rfl⟩ := numL_some h
  exact numL_of h1 (visL_lim hv) hp hq
/-- What the reference hands back. -/
def num43 (k : Nat) (ps : List Int) : Option (List S43 × Int × Int) := (numL k ps).bind fun L => some (L.map lab43, 0, 0)
theorem num43_mono (k : Nat) (ps : List Int) : LeO (num43 k ps) (num43 (k + 1) ps) := LeO.bind (numL_mono k ps) (fun _ => LeO.refl _)
set_option maxRecDepth 100000 in
set_option maxHeartbeats 1000000 in
theorem walk_none {g c : Nat} {A : Option Addr} (W : World) (h : W.cell? ⟨g, 0, none⟩ = some (.slice A 0 c)) :
    Calls Try.prog 34 #[.pointer (some ⟨g, 0, none⟩), .int .i64 (-1), .int .i64 0] W fun e w' => e = .returned (.tuple #[]) ∧ W = w' := by
  have hu61 := Try.underlying61
  go_enter Try.func34, Try.ntmps34
  go_wp2
  go_loop [13] (fun v => v = .int .i64 0) (fun _ => 0)
  case atStart => exact rfl
  case round =>
    subst hrel
    go_wp2
    go_end0
    exact ⟨rfl, rfl⟩

theorem walk_new {w W : World} {A0 A : Option Addr} {c0 c g k : Nat} {l0 : List Int} {y : List S43} {L : List Lab} (hr0 : Kd.C (Kd.int .i64) w A0 l0.length l0) (hbase : w.heap.size ≤ g)
    (hst : W.heap[g]? = some (.cells #[.slice A0 l0.length c0, .slice A y.length c, .int .i64 0, .int .i64 0] 61 (0, 0)))
    (hR : Kd.R k43 43 W w.heap.size (fun _ => True) (.slice A y.length c) y) (hy : y = List.replicate ((l0.length : Int) : Int).toNat z43) (hB : Below w.heap.size w W) (hnum : numL k l0 = some L) :
    Calls Try.prog 34 #[.pointer (some ⟨g, 0, none⟩), .int .i64 (-1), .int .i64 0] W fun e w' => e = .returned (.tuple #[]) ∧ Kd.R k43 43 w' w.heap.size (fun _ => True) (.slice A y.length c) (L.map lab43) ∧ w'.cell? ⟨g, 1, none⟩ = some (.slice A y.length c) ∧ Below w.heap.size w w' := by
  obtain ⟨hn, t, hv, hp, hq, rfl⟩ := numL_some hnum
  have hy' : y = List.replicate l0.length z43 := hy
  have hyl : y.length = l0.length := by rw [hy', List.length_replicate]
  rw [hyl] at hst hR ⊢
  rcases Nat.eq_zero_or_pos l0.length with h0 | hpos
  · rw [h0] at hst
    have hl0 : l0 = [] := List.eq_nil_of_length_eq_zero h0
    have hy0 : y = [] := by rw [hy', h0]; rfl
    refine (walk_none W ((blk_cell hst 0).trans rfl)).mono ?_
    rintro e w' ⟨rfl, rfl⟩
    have ht : t.L.map lab43 = y := by
      rw [hl0] at hv
      have : t = blank 0 := (Option.some.inj hv).symm
      rw [this, hy0]; rfl
    rw [ht]
    exact ⟨rfl, hR, by rw [h0]; exact (blk_cell hst 1).trans rfl, hB⟩
  · rw [hy'] at hR
    obtain ⟨gl, capl, hgl, _, _, _, _⟩ := Kd.R_form hR (by rw [List.length_replicate]; exact hpos)
    injection hgl with hg1 _ hg3
    subst hg1; subst hg3
    obtain ⟨curl, hcurl, hlc, hsz, hnc, hcm, hbl⟩ := cells43 hpos hR
    have hgne : g ≠ gl := blk_ne hst hcurl (by decide)
    have hV : VS 61 43 (.slice A0 l0.length c0) g gl l0.length c W W (blank l0.length) := ⟨rfl, rfl, rfl, rfl, fun _ _ _ => rfl, hst, ⟨curl, hcurl, hlc, hsz⟩, hgne⟩
    have hup := visL_up _ _ _ hv
    refine (walk_calls rfl hn (fun _ => ?_) (lim k) 0 (-1) 0 (blank l0.length) t W rfl hv (by simp [blank]) hp hq (by have := lim_le k; omega) hV).mono ?_
    · obtain ⟨_, _, hc⟩ := hr0
      obtain ⟨ad, hA, hcells⟩ := hc hpos
      have hcell : ∀ j, j < l0.length → w.cell? (ad.add j) = some (.int .i64 (l0.getD j 0)) := by
        intro j hj
        obtain ⟨cs, _, hK, hcs⟩ := hcells j l0[j] (List.getElem?_eq_getElem hj)
        have hK' : cs = [Value.int .i64 l0[j]] := hK
        have := hcs 0 (.int .i64 l0[j]) (by rw [hK']; rfl)
        have e1 : (Kd.int .i64).sz = 1 := rfl
        rw [e1, Nat.mul_one, Nat.add_zero] at this
        rw [this, List.getD_eq_getElem?_getD, List.getElem?_eq_getElem hj]; rfl
      have hlt : ad.block < w.heap.size := by have := World.block_lt_of_cell? w _ (hcell 0 hpos); rwa [add_block] at this
      exact ⟨ad, hA, by omega, by omega, fun j hj => (hB.cell (World.block_lt_of_cell? w _ (hcell j hj))).trans (hcell j hj)⟩
    · rintro e w' ⟨rfl, hV'⟩
      refine ⟨rfl, hV'.result43 w.heap.size hbl (by rw [hup.1]; simp [blank]) hnc hcm, (hV'.cell 1).trans rfl, ⟨hV'.os.trans hB.os, hV'.tape.trans hB.tape, hV'.output.trans hB.output, by rw [hV'.size]; exact hB.size, fun j hj => (hV'.keep j (by omega) (by omega)).trans (hB.block j hj)⟩⟩
end Go.Proofs.Ythjcmodhleoocaa.Q
/- FCorporaref10Cyclic -/
namespace Go.Proofs.Ythjcmodhleoocaa.Q
open Go.RowKit Go.Proofs.YthjcmodhleoocaaW.PrintWords Go.Proofs.YthjcmodhleoocaaW.PrintLast Go.Proofs.YthjcmodhleoocaaW.PrintMore
attribute [local go_sem] max2_int min2_int max_two min_two max_three min_three max_four min_four   -- for this text's walks alone
set_option linter.unusedVariables false
set_option linter.unusedSimpArgs false
attribute [local go_sem high] eqA41

/-! ### corporaref10_cyclic: function 33 -/
def corporaref10_cyclic.l0 : Nat → List Int → Int → Int → Int → Int → Option (Bool)
 | 0, _, _, _, _, _ => none
 | k + 1, x0, x1, x5, x8, x9 => if x9 < x8 then (if 0 ≤ x5 then (if x5 < (x0.length : Int) then (if (rd x0 x5) < 0 then (some false) else (if (rd x0 x5) = x1 then (some true) else (corporaref10_cyclic.l0 k x0 x1 (rd x0 x5) x8 (wrap64 (x9 + 1))))) else (none)) else (none)) else (some false)
def corporaref10_cyclic.f (k : Nat) (l0 : List Int) (a1 : Int) : Option (Bool) := corporaref10_cyclic.l0 k l0 a1 a1 (l0.length : Int) 0
theorem corporaref10_cyclic.mono_l : ∀ k, (∀ y0 y1 y2 y3 y4, LeO (corporaref10_cyclic.l0 k y0 y1 y2 y3 y4) (corporaref10_cyclic.l0 (k + 1) y0 y1 y2 y3 y4))
 | 0 => fun _ _ _ _ _ r h => by simp [corporaref10_cyclic.l0] at h
 | k + 1 => by
  have ih0 := corporaref10_cyclic.mono_l k
  ·intro y0 y1 y2 y3 y4
   unfold corporaref10_cyclic.l0
   repeat' first
   | (with_reducible exact ih0 _ _ _ _ _)
   | (with_reducible exact LeO.refl _)
   | (with_reducible exact LeO.none _)
   | (with_reducible refine LeO.ite ?_ ?_)
   | (with_reducible refine LeO.bind ?_ (fun _ => ?_))
   | exact ih0 _ _ _ _ _
   | exact LeO.none _
   | refine LeO.ite ?_ ?_
   | refine LeO.bind ?_ (fun _ => ?_)
theorem corporaref10_cyclic.mono : ∀ a0 a1 k, LeO (corporaref10_cyclic.f k a0 a1) (corporaref10_cyclic.f (k + 1) a0 a1) := by
 intro a0 a1 k
 have ih0 := corporaref10_cyclic.mono_l k
 unfold corporaref10_cyclic.f
 repeat' first
   | (with_reducible exact ih0 _ _ _ _ _)
   | (with_reducible exact LeO.refl _)
   | (with_reducible exact LeO.none _)
   | (with_reducible refine LeO.ite ?_ ?_)
   | (with_reducible refine LeO.bind ?_ (fun _ => ?_))
   | exact ih0 _ _ _ _ _
   | exact LeO.none _
   | refine LeO.ite ?_ ?_
   | refine LeO.bind ?_ (fun _ => ?_)
set_option maxHeartbeats 8000000 in
set_option maxRecDepth 100000 in
theorem corporaref10_cyclic.calls (k : Nat) (A0 : Option Addr) (c0 : Nat) (l0 : List Int) (a1 : Int) (r : Bool) (w : World) (hr0 : Kd.C (Kd.int .i64) w A0 l0.length l0) (hc0 : l0.length ≤ c0) (h : corporaref10_cyclic.f k l0 a1 = some r) :
  Calls Try.prog 33 #[.slice A0 l0.length c0, .int .i64 a1] w fun e w' => e = .returned (.bool r) ∧ Drawn0 w w' := by
 have HR0 := Aside0.mk hr0
 have HC0 := Aside0.mk hc0
 clear hr0 hc0
 have H : (corporaref10_cyclic.l0 k l0 a1 a1 (l0.length : Int) 0) = some r := h
 clear h
 have H' := Aside0.mk H
 clear H
 go_enter Try.func33, Try.ntmps33
 go_wp2
 go_loopg [5, 9] k (fun kq v5 v9 w' => ∃ (x5_1 : Int) (x9_1 : Int), v5 = .int .i64 x5_1 ∧ v9 = .int .i64 x9_1 ∧ Aside0 (corporaref10_cyclic.l0 kq l0 a1 x5_1 (l0.length : Int) x9_1 = some r) ∧ Aside0 (kq ≤ k) ∧ Drawn0 w w')
 case atStart => exact ⟨(a1), (0), (by first | rfl | (simp; done) | (simp [*]; done)), (by first | rfl | (simp; done) | (simp [*]; done)), H', ⟨Nat.le_refl _⟩, by repeat (first | exact Drawn0.refl _ | apply Drawn0.step)⟩
 case round =>
  clear H'
  try clear p2
  obtain ⟨x5_1, x9_1, rfl, rfl, HA, HK1, ⟨m1, rfl⟩⟩ := hrel
  cases gk with
  | zero => exact absurd HA.out (by simp [corporaref10_cyclic.l0])
  | succ k1 =>
   have H := HA.out
   clear HA
   simp only [corporaref10_cyclic.l0] at H
   by_cases c3 : x9_1 < (l0.length : Int)
   ·rw [if_pos c3] at H
    have c3b0 : decide (x9_1 < (l0.length : Int)) = true := decide_eq_true c3
    clear c3
    by_cases c4 : 0 ≤ x5_1
    ·rw [if_pos c4] at H
     have c4b0 : decide (0 ≤ x5_1) = true := decide_eq_true c4
     clear c4
     by_cases c5 : x5_1 < (l0.length : Int)
     ·rw [if_pos c5] at H
      have c5b0 : decide (x5_1 < (l0.length : Int)) = true := decide_eq_true c5
      clear c5
      by_cases c6 : (rd l0 x5_1) < 0
      ·rw [if_pos c6] at H
       have c6b0 : decide ((rd l0 x5_1) < 0) = true := decide_eq_true c6
       clear c6
       obtain rfl := Option.some.inj H
       have p131 : 0 ≤ (x5_1 : Int) := of_decide_eq_true (by first | (with_reducible assumption) | assumption)
       have q131 : x5_1 < (l0.length : Int) := of_decide_eq_true (by first | (with_reducible assumption) | assumption)
       obtain ⟨ad131, e131, hx131_0⟩ := Kd.at_int HR0.out x5_1 p131 q131
       cases e131
       replace p131 := eq_true p131
       replace q131 := eq_true q131
       go_wp2
       go_ret
       exact ⟨by first | rfl | (simp; done) | (simp [*]; done), by repeat (first | exact Drawn0.refl _ | apply Drawn0.step)⟩
      ·rw [if_neg c6] at H
       have c6b0 : decide ((rd l0 x5_1) < 0) = false := decide_eq_false c6
       clear c6
       by_cases c7 : (rd l0 x5_1) = a1
       ·rw [if_pos c7] at H
        have c7b0 : ((rd l0 x5_1) == a1) = true := beq_iff_eq.mpr c7
        have c7b1 : ((rd l0 x5_1) != a1) = false := bne_eq_false_iff_eq.mpr c7
        clear c7
        obtain rfl := Option.some.inj H
        have p131 : 0 ≤ (x5_1 : Int) := of_decide_eq_true (by first | (with_reducible assumption) | assumption)
        have q131 : x5_1 < (l0.length : Int) := of_decide_eq_true (by first | (with_reducible assumption) | assumption)
        obtain ⟨ad131, e131, hx131_0⟩ := Kd.at_int HR0.out x5_1 p131 q131
        cases e131
        replace p131 := eq_true p131
        replace q131 := eq_true q131
        go_wp2
        go_ret
        exact ⟨by first | rfl | (simp; done) | (simp [*]; done), by repeat (first | exact Drawn0.refl _ | apply Drawn0.step)⟩
       ·rw [if_neg c7] at H
        have c7b0 : ((rd l0 x5_1) == a1) = false := beq_eq_false_iff_ne.mpr c7
        have c7b1 : ((rd l0 x5_1) != a1) = true := bne_iff_ne.mpr c7
        have H' := Aside0.mk H
        clear H
        have p131 : 0 ≤ (x5_1 : Int) := of_decide_eq_true (by first | (with_reducible assumption) | assumption)
        have q131 : x5_1 < (l0.length : Int) := of_decide_eq_true (by first | (with_reducible assumption) | assumption)
        obtain ⟨ad131, e131, hx131_0⟩ := Kd.at_int HR0.out x5_1 p131 q131
        cases e131
        replace p131 := eq_true p131
        replace q131 := eq_true q131
        go_wp2
        go_roundg k1
        case measure => have := HK1.out; omega
        case rel => exact ⟨(rd l0 x5_1), (wrap64 (x9_1 + 1)), (by first | rfl | (simp; done) | (simp [*]; done)), (by first | rfl | (simp; done) | (simp [*]; done)), H', ⟨by have := HK1.out; omega⟩, by repeat (first | exact Drawn0.refl _ | apply Drawn0.step)⟩
     ·rw [if_neg c5] at H
      exact absurd H (by simp)
    ·rw [if_neg c4] at H
     exact absurd H (by simp)
   ·rw [if_neg c3] at H
    have c3b0 : decide (x9_1 < (l0.length : Int)) = false := decide_eq_false c3
    clear c3
    obtain rfl := Option.some.inj H
    go_wp2
    go_ret
    exact ⟨by first | rfl | (simp; done) | (simp [*]; done), by repeat (first | exact Drawn0.refl _ | apply Drawn0.step)⟩

end Go.Proofs.Ythjcmodhleoocaa.Q
/- FCorporaref10Assign -/
namespace Go.Proofs.Ythjcmodhleoocaa.Q
open Go.RowKit Go.Proofs.YthjcmodhleoocaaW.PrintWords Go.Proofs.YthjcmodhleoocaaW.PrintLast Go.Proofs.YthjcmodhleoocaaW.PrintMore
attribute [local go_sem] max2_int min2_int max_two min_two max_three min_three max_four min_four   -- for this text's walks alone
set_option linter.unusedVariables false
set_option linter.unusedSimpArgs false
attribute [local go_sem high] eqA41

/-! ### corporaref10_Assign: function 12 -/
mutual
def corporaref10_Assign.l0 : Nat → List Int → List Int → Int → Int → Option ((List (S43)) × Int × Int)
 | 0, _, _, _, _ => none
 | k + 1, x0, x12, x13, x14 => if x14 < x13 then (if 0 ≤ x14 then (if x14 < (x12.length : Int) then (if (rd x12 x14) < (-1) then (some (([] : List (S43)), x14, 8)) else (if (rd x12 x14) ≥ (x0.length : Int) then (some (([] : List (S43)), x14, 8)) else (corporaref10_Assign.l0 k x0 x12 x13 (wrap64 (x14 + 1))))) else (none)) else (none)) else (corporaref10_Assign.l1 k x0 (x0.length : Int) 0)
def corporaref10_Assign.l1 : Nat → List Int → Int → Int → Option ((List (S43)) × Int × Int)
 | 0, _, _, _ => none
 | k + 1, x0, x30, x31 => if x31 < x30 then ((corporaref10_cyclic.f k x0 x31).bind fun t134 => (if t134 = true then (some (([] : List (S43)), x31, 12)) else (corporaref10_Assign.l1 k x0 x30 (wrap64 (x31 + 1))))) else (if 0 ≤ (x0.length : Int) then (if ((x0.length : Int) : Int).toNat ≤ 11728124029610 then (num43 k x0) else (none)) else (none))
end
def corporaref10_Assign.f (k : Nat) (l0 : List Int) : Option ((List (S43)) × Int × Int) := if (l0.length : Int) > 4096 then (some (([] : List (S43)), 0, 2)) else (corporaref10_Assign.l0 k l0 l0 (l0.length : Int) 0)
theorem corporaref10_Assign.mono_l : ∀ k, (∀ y0 y1 y2 y3, LeO (corporaref10_Assign.l0 k y0 y1 y2 y3) (corporaref10_Assign.l0 (k + 1) y0 y1 y2 y3)) ∧ (∀ y0 y1 y2, LeO (corporaref10_Assign.l1 k y0 y1 y2) (corporaref10_Assign.l1 (k + 1) y0 y1 y2))
 | 0 => ⟨fun _ _ _ _ r h => by simp [corporaref10_Assign.l0] at h, fun _ _ _ r h => by simp [corporaref10_Assign.l1] at h⟩
 | k + 1 => by
  obtain ⟨ih0, ih1⟩ := corporaref10_Assign.mono_l k
  refine ⟨?_, ?_⟩
  ·intro y0 y1 y2 y3
   unfold corporaref10_Assign.l0
   repeat' first
   | (with_reducible exact ih0 _ _ _ _)
   | (with_reducible exact ih1 _ _ _)
   | (with_reducible exact corporaref10_cyclic.mono _ _ _)
   | (with_reducible exact num43_mono _ _)
   | (with_reducible exact LeO.refl _)
   | (with_reducible exact LeO.none _)
   | (with_reducible refine LeO.ite ?_ ?_)
   | (with_reducible refine LeO.bind ?_ (fun _ => ?_))
   | exact ih0 _ _ _ _
   | exact ih1 _ _ _
   | exact corporaref10_cyclic.mono _ _ _
   | exact LeO.none _
   | refine LeO.ite ?_ ?_
   | refine LeO.bind ?_ (fun _ => ?_)
  ·intro y0 y1 y2
   unfold corporaref10_Assign.l1
   repeat' first
   | (with_reducible exact ih0 _ _ _ _)
   | (with_reducible exact ih1 _ _ _)
   | (with_reducible exact corporaref10_cyclic.mono _ _ _)
   | (with_reducible exact num43_mono _ _)
   | (with_reducible exact LeO.refl _)
   | (with_reducible exact LeO.none _)
   | (with_reducible refine LeO.ite ?_ ?_)
   | (with_reducible refine LeO.bind ?_ (fun _ => ?_))
   | exact ih0 _ _ _ _
   | exact ih1 _ _ _
   | exact corporaref10_cyclic.mono _ _ _
   | exact LeO.none _
   | refine LeO.ite ?_ ?_
   | refine LeO.bind ?_ (fun _ => ?_)
theorem corporaref10_Assign.mono : ∀ a0 k, LeO (corporaref10_Assign.f k a0) (corporaref10_Assign.f (k + 1) a0) := by
 intro a0 k
 obtain ⟨ih0, ih1⟩ := corporaref10_Assign.mono_l k
 unfold corporaref10_Assign.f
 repeat' first
   | (with_reducible exact ih0 _ _ _ _)
   | (with_reducible exact ih1 _ _ _)
   | (with_reducible exact corporaref10_cyclic.mono _ _ _)
   | (with_reducible exact num43_mono _ _)
   | (with_reducible exact LeO.refl _)
   | (with_reducible exact LeO.none _)
   | (with_reducible refine LeO.ite ?_ ?_)
   | (with_reducible refine LeO.bind ?_ (fun _ => ?_))
   | exact ih0 _ _ _ _
   | exact ih1 _ _ _
   | exact corporaref10_cyclic.mono _ _ _
   | exact LeO.none _
   | refine LeO.ite ?_ ?_
   | refine LeO.bind ?_ (fun _ => ?_)
set_option maxHeartbeats 8000000 in
set_option maxRecDepth 100000 in
theorem corporaref10_Assign.calls (k : Nat) (A0 : Option Addr) (c0 : Nat) (l0 : List Int) (r1 : List (S43)) (r2 : Int) (r3 : Int) (w : World) (hr0 : Kd.C (Kd.int .i64) w A0 l0.length l0) (hc0 : l0.length ≤ c0) (h : corporaref10_Assign.f k l0 = some (r1, r2, r3)) :
  Calls Try.prog 12 #[.slice A0 l0.length c0] w fun e w' => ∃ v0_ : Value, e = .returned (.tuple #[v0_, .int .i64 r2, .int .i64 r3]) ∧ Kd.R k43 43 w' w.heap.size (fun _ => True) v0_ r1 ∧ Below w.heap.size w w' := by
 have hu61 := Try.underlying61
 have HR0 := Aside0.mk hr0
 have HC0 := Aside0.mk hc0
 clear hr0 hc0
 have HB := Aside0.mk (Below.refl w.heap.size w)
 have H : (if (l0.length : Int) > 4096 then (some (([] : List (S43)), 0, 2)) else (corporaref10_Assign.l0 k l0 l0 (l0.length : Int) 0)) = some (r1, r2, r3) := h
 clear h
 by_cases c2 : (l0.length : Int) > 4096
 ·rw [if_pos c2] at H
  have c2b0 : decide (4096 < (l0.length : Int)) = true := decide_eq_true c2
  have c2b1 : decide (4096 < l0.length) = true := decide_eq_true (by omega)
  clear c2
  simp only [Option.some.injEq, Prod.mk.injEq] at H
  obtain ⟨rfl, rfl, rfl⟩ := H
  go_enter Try.func12, Try.ntmps12
  go_wp2
  go_ret3
  exact ⟨_, by first | rfl | (simp [errW_none, errW_some] <;> rfl) | (simp [*, errW_none, errW_some] <;> rfl), by first | exact Kd.R_nil _ _ _ _ _ | exact Kd.N_nil _ _ _ _ _ | exact Kd.V_nil _ _ _ _ _ | exact Kd.Q_nil _ _ _ _ _ | exact Kd.S_nil _ _ _ _ _, by repeat (first | (with_reducible first | exact HB.out | apply below_alloc | apply pw_below_drewN | apply below_drew1) | exact HB.out)⟩
 ·rw [if_neg c2] at H
  have c2b0 : decide (4096 < (l0.length : Int)) = false := decide_eq_false c2
  have c2b1 : decide (4096 < l0.length) = false := decide_eq_false (by omega)
  clear c2
  have H' := Aside0.mk H
  clear H
  go_enter Try.func12, Try.ntmps12
  go_wp2
  go_loopg [14] k (fun kq v14 w' => ∃ (x14_1 : Int), v14 = .int .i64 x14_1 ∧ Aside0 (corporaref10_Assign.l0 kq l0 l0 (l0.length : Int) x14_1 = some (r1, r2, r3)) ∧ Aside0 (kq ≤ k) ∧ Aside0 (Below w.heap.size w w'))
  case atStart => exact ⟨(0), (by first | rfl | (simp; done) | (simp [*]; done)), H', ⟨Nat.le_refl _⟩, ⟨by repeat (first | (with_reducible first | exact HB.out | apply below_alloc | apply pw_below_drewN | apply below_drew1) | exact HB.out)⟩⟩
  case round =>
   clear H'
   try clear c1
   try clear c2
   try clear c2b0
   try clear c2b1
   try clear p2
   obtain ⟨x14_1, rfl, HA, HK1, HB⟩ := hrel
   cases gk with
   | zero => exact absurd HA.out (by simp [corporaref10_Assign.l0])
   | succ k1 =>
    have H := HA.out
    clear HA
    simp only [corporaref10_Assign.l0] at H
    by_cases c3 : x14_1 < (l0.length : Int)
    ·rw [if_pos c3] at H
     have c3b0 : decide (x14_1 < (l0.length : Int)) = true := decide_eq_true c3
     clear c3
     by_cases c4 : 0 ≤ x14_1
     ·rw [if_pos c4] at H
      have c4b0 : decide (0 ≤ x14_1) = true := decide_eq_true c4
      clear c4
      by_cases c5 : x14_1 < (l0.length : Int)
      ·rw [if_pos c5] at H
       have c5b0 : decide (x14_1 < (l0.length : Int)) = true := decide_eq_true c5
       clear c5
       by_cases c6 : (rd l0 x14_1) < (-1)
       ·rw [if_pos c6] at H
        have c6b0 : decide ((rd l0 x14_1) < (-1)) = true := decide_eq_true c6
        clear c6
        simp only [Option.some.injEq, Prod.mk.injEq] at H
        obtain ⟨rfl, rfl, rfl⟩ := H
        have p133 : 0 ≤ (x14_1 : Int) := of_decide_eq_true (by first | (with_reducible assumption) | assumption)
        have q133 : x14_1 < (l0.length : Int) := of_decide_eq_true (by first | (with_reducible assumption) | assumption)
        obtain ⟨ad133, e133, hx133_0⟩ := Kd.at_int HR0.out x14_1 p133 q133
        cases e133
        replace hx133_0 := (HB.out.cell (World.block_lt_of_cell? w _ hx133_0)).trans hx133_0
        replace p133 := eq_true p133
        replace q133 := eq_true q133
        go_wp2
        go_ret3
        exact ⟨_, by first | rfl | (simp [errW_none, errW_some] <;> rfl) | (simp [*, errW_none, errW_some] <;> rfl), by first | exact Kd.R_nil _ _ _ _ _ | exact Kd.N_nil _ _ _ _ _ | exact Kd.V_nil _ _ _ _ _ | exact Kd.Q_nil _ _ _ _ _ | exact Kd.S_nil _ _ _ _ _, by repeat (first | (with_reducible first | exact HB.out | apply below_alloc | apply pw_below_drewN | apply below_drew1) | exact HB.out)⟩
       ·rw [if_neg c6] at H
        have c6b0 : decide ((rd l0 x14_1) < (-1)) = false := decide_eq_false c6
        clear c6
        by_cases c7 : (rd l0 x14_1) ≥ (l0.length : Int)
        ·rw [if_pos c7] at H
         have c7b0 : decide ((l0.length : Int) ≤ (rd l0 x14_1)) = true := decide_eq_true c7
         clear c7
         simp only [Option.some.injEq, Prod.mk.injEq] at H
         obtain ⟨rfl, rfl, rfl⟩ := H
         have p133 : 0 ≤ (x14_1 : Int) := of_decide_eq_true (by first | (with_reducible assumption) | assumption)
         have q133 : x14_1 < (l0.length : Int) := of_decide_eq_true (by first | (with_reducible assumption) | assumption)
         obtain ⟨ad133, e133, hx133_0⟩ := Kd.at_int HR0.out x14_1 p133 q133
         cases e133
         replace hx133_0 := (HB.out.cell (World.block_lt_of_cell? w _ hx133_0)).trans hx133_0
         replace p133 := eq_true p133
         replace q133 := eq_true q133
         go_wp2
         go_ret3
         exact ⟨_, by first | rfl | (simp [errW_none, errW_some] <;> rfl) | (simp [*, errW_none, errW_some] <;> rfl), by first | exact Kd.R_nil _ _ _ _ _ | exact Kd.N_nil _ _ _ _ _ | exact Kd.V_nil _ _ _ _ _ | exact Kd.Q_nil _ _ _ _ _ | exact Kd.S_nil _ _ _ _ _, by repeat (first | (with_reducible first | exact HB.out | apply below_alloc | apply pw_below_drewN | apply below_drew1) | exact HB.out)⟩
        ·rw [if_neg c7] at H
         have c7b0 : decide ((l0.length : Int) ≤ (rd l0 x14_1)) = false := decide_eq_false c7
         clear c7
         have H' := Aside0.mk H
         clear H
         have p133 : 0 ≤ (x14_1 : Int) := of_decide_eq_true (by first | (with_reducible assumption) | assumption)
         have q133 : x14_1 < (l0.length : Int) := of_decide_eq_true (by first | (with_reducible assumption) | assumption)
         obtain ⟨ad133, e133, hx133_0⟩ := Kd.at_int HR0.out x14_1 p133 q133
         cases e133
         replace hx133_0 := (HB.out.cell (World.block_lt_of_cell? w _ hx133_0)).trans hx133_0
         replace p133 := eq_true p133
         replace q133 := eq_true q133
         go_wp2
         go_roundg k1
         case measure => have := HK1.out; omega
         case rel => exact ⟨(wrap64 (x14_1 + 1)), (by first | rfl | (simp; done) | (simp [*]; done)), H', ⟨by have := HK1.out; omega⟩, ⟨by repeat (first | (with_reducible first | exact HB.out | apply below_alloc | apply pw_below_drewN | apply below_drew1) | exact HB.out)⟩⟩
      ·rw [if_neg c5] at H
       exact absurd H (by simp)
     ·rw [if_neg c4] at H
      exact absurd H (by simp)
    ·rw [if_neg c3] at H
     have c3b0 : decide (x14_1 < (l0.length : Int)) = false := decide_eq_false c3
     clear c3
     have H' := Aside0.mk H
     clear H
     go_wp2
     go_loopg [31] k1 (fun kq v31 w' => ∃ (x31_2 : Int), v31 = .int .i64 x31_2 ∧ Aside0 (corporaref10_Assign.l1 kq l0 (l0.length : Int) x31_2 = some (r1, r2, r3)) ∧ Aside0 (kq ≤ k1) ∧ Aside0 (Below w.heap.size w w'))
     case atStart => exact ⟨(0), (by first | rfl | (simp; done) | (simp [*]; done)), H', ⟨Nat.le_refl _⟩, ⟨by repeat (first | (with_reducible first | exact HB.out | apply below_alloc | apply pw_below_drewN | apply below_drew1) | exact HB.out)⟩⟩
     case round =>
      clear H'
      try clear c1
      try clear p1
      try clear q1
      try clear hx1
      try clear c2
      try clear c2b0
      try clear c2b1
      try clear p2
      try clear c3
      try clear c3b0
      try clear c4
      try clear c4b0
      try clear c5
      try clear c5b0
      try clear c6
      try clear c6b0
      try clear p6
      try clear c7
      try clear c7b0
      try clear hx133_0
      try clear p133
      try clear p2
      try clear q133
      obtain ⟨x31_2, rfl, HA, HK2, HB⟩ := hrel
      cases gk with
      | zero => exact absurd HA.out (by simp [corporaref10_Assign.l1])
      | succ k2 =>
       have H := HA.out
       clear HA
       simp only [corporaref10_Assign.l1] at H
       by_cases c8 : x31_2 < (l0.length : Int)
       ·rw [if_pos c8] at H
        have c8b0 : decide (x31_2 < (l0.length : Int)) = true := decide_eq_true c8
        clear c8
        replace H := Option.bind_eq_some_iff.mp H
        obtain ⟨t134, A90, H⟩ := H
        replace H : (if t134 = true then (some (([] : List (S43)), x31_2, 12)) else (corporaref10_Assign.l1 k2 l0 (l0.length : Int) (wrap64 (x31_2 + 1)))) = some (r1, r2, r3) := H
        have A9 := Aside0.mk A90
        clear A90
        by_cases c10 : t134 = true
        ·subst c10
         have H1 : (some (([] : List (S43)), x31_2, 12)) = some (r1, r2, r3) := by rw [if_pos rfl] at H; exact H
         clear H
         have H := H1
         clear H1
         simp only [Option.some.injEq, Prod.mk.injEq] at H
         obtain ⟨rfl, rfl, rfl⟩ := H
         go_wp2_with (first | ((with_reducible refine gate_callee (f := 33) rfl ?_); refine goesL_ (some 36) rfl rfl Try.func33 (by kernel_rfl) rfl #[.slice A0 l0.length c0, .int .i64 x31_2] rfl (by (try simp only [List.map_toArray, List.map_cons, List.map_nil]); first | done | rfl | (simp only [List.length_drop, List.length_take]; rfl)) ?_; (with_reducible refine (corporaref10_cyclic.calls k2 _ _ l0 x31_2 true _ ?side1 ?side2 A9.out).mono ?_); (case side1 => repeat (first | exact (Kd.C_below HR0.out HB.out) | (with_reducible refine Kd.C_alloc ?_ _) | (with_reducible refine Kd.C_drewN ?_ _) | (with_reducible refine Kd.C_drew ?_))); (case side2 => exact HC0.out); rintro e w' ⟨rfl, ⟨nd, rfl⟩⟩; refine ⟨_, rfl, ?_⟩))
         go_ret3
         exact ⟨_, by first | rfl | (simp [errW_none, errW_some] <;> rfl) | (simp [*, errW_none, errW_some] <;> rfl), by first | exact Kd.R_nil _ _ _ _ _ | exact Kd.N_nil _ _ _ _ _ | exact Kd.V_nil _ _ _ _ _ | exact Kd.Q_nil _ _ _ _ _ | exact Kd.S_nil _ _ _ _ _, by repeat (first | (with_reducible first | exact HB.out | apply below_alloc | apply pw_below_drewN | apply below_drew1) | exact HB.out)⟩
        ·replace c10 := Bool.eq_false_iff.mpr c10
         subst c10
         have H1 : (corporaref10_Assign.l1 k2 l0 (l0.length : Int) (wrap64 (x31_2 + 1))) = some (r1, r2, r3) := by rw [if_neg (show ¬ (false = true) by decide)] at H; exact H
         clear H
         have H := H1
         clear H1
         have H' := Aside0.mk H
         clear H
         go_wp2_with (first | ((with_reducible refine gate_callee (f := 33) rfl ?_); refine goesL_ (some 36) rfl rfl Try.func33 (by kernel_rfl) rfl #[.slice A0 l0.length c0, .int .i64 x31_2] rfl (by (try simp only [List.map_toArray, List.map_cons, List.map_nil]); first | done | rfl | (simp only [List.length_drop, List.length_take]; rfl)) ?_; (with_reducible refine (corporaref10_cyclic.calls k2 _ _ l0 x31_2 false _ ?side1 ?side2 A9.out).mono ?_); (case side1 => repeat (first | exact (Kd.C_below HR0.out HB.out) | (with_reducible refine Kd.C_alloc ?_ _) | (with_reducible refine Kd.C_drewN ?_ _) | (with_reducible refine Kd.C_drew ?_))); (case side2 => exact HC0.out); rintro e w' ⟨rfl, ⟨nd, rfl⟩⟩; refine ⟨_, rfl, ?_⟩))
         go_roundg k2
         case measure => have := HK1.out; have := HK2.out; omega
         case rel => exact ⟨(wrap64 (x31_2 + 1)), (by first | rfl | (simp; done) | (simp [*]; done)), H', ⟨by have := HK1.out; have := HK2.out; omega⟩, ⟨by repeat (first | (with_reducible first | exact HB.out | apply below_alloc | apply pw_below_drewN | apply below_drew1) | exact HB.out)⟩⟩
       ·rw [if_neg c8] at H
        have c8b0 : decide (x31_2 < (l0.length : Int)) = false := decide_eq_false c8
        clear c8
        by_cases c11 : 0 ≤ (l0.length : Int)
        ·rw [if_pos c11] at H
         have c11b0 := eq_true c11
         have c11b1 : decide (0 ≤ (l0.length : Int)) = true := decide_eq_true c11
         clear c11
         by_cases c12 : ((l0.length : Int) : Int).toNat ≤ 11728124029610
         ·rw [if_pos c12] at H
          have c12b0 := eq_true c12
          have c12b1 : decide (((l0.length : Int) : Int).toNat ≤ 11728124029610) = true := decide_eq_true c12
          clear c12
          cases hnum : numL k2 l0 with
          | none => rw [num43, hnum] at H; cases H
          | some L =>
          rw [num43, hnum] at H
          have HNum := Aside0.mk hnum
          clear hnum
          obtain ⟨y135, hy135⟩ : ∃ y_ : List (S43), y_ = (List.replicate ((l0.length : Int) : Int).toNat z43) := ⟨_, rfl⟩
          have Ny135 := Aside0.mk hy135
          clear hy135
          simp only [Option.bind_some, Option.some.injEq, Prod.mk.injEq] at H
          obtain ⟨hr1, rfl, rfl⟩ := H
          subst hr1
          go_wp2_with (first | ((with_reducible refine gate_dst (N := 42) rfl ?_); (try (refine gate_guard (by rfl) ?_; dsimp only)); refine Kd.R_make k43 _ 43 rfl (N := 42) rfl 27 _ _ rfl (l0.length : Int) rfl rfl Try.underlying27 (.agg #[(.int .i64 0), (.int .i64 0), (.int .i64 0)]) 24 info43 rfl (by decide) (by omega) z43 (ok := fun _ => True) (okp := fun _ => True) (k43_mkM _ _ _ z43 ) (fun _ hk => hk) trivial (of_decide_eq_true (by first | (with_reducible assumption) | assumption)) (Nat.le_trans (Nat.mul_le_mul_right _ (of_decide_eq_true (by first | (with_reducible assumption) | assumption) : (l0.length : Int).toNat ≤ 11728124029610)) (by omega)) (Below.refl _ _) (Nat.le_refl _) ?_; intro v136 w13 ho14 hb hg_ hnew_; clear hg_ hnew_; (first | rw [← Ny135.out] at ho14 | (simp only [Int.reduceToNat] at ho14; rw [← Ny135.out] at ho14)); have n0_ := Aside0.mk (Kd.R_lower ho14 (below_size (by repeat (first | (with_reducible first | exact HB.out | apply below_alloc | apply pw_below_drewN | apply below_drew1) | exact HB.out)))); have n1_ := Aside0.mk (below_step (by repeat (first | (with_reducible first | exact HB.out | apply below_alloc | apply pw_below_drewN | apply below_drew1) | exact HB.out)) hb); clear HB; have HO137 := n0_; have HB := n1_; clear n0_ n1_; clear hb ho14; obtain ⟨Ao15, co15, eo15⟩ := Kd.R_slice HO137.out; subst eo15) | ((with_reducible refine gate_dst (N := 44) rfl ?_); (try (refine gate_guard (by rfl) ?_; dsimp only)); refine box_event ?hg (N := 44) ?hd (cs := #[.slice A0 l0.length c0, .slice Ao15 y135.length co15, .int .i64 0, .int .i64 0]) (t := 61) ?hr ?_; (case hd => rfl); (case hg => rfl); (case hr => first | (go_simp; done) | (go_simp; rfl)); intro gb138 hg w16 hbox hb; have n0_ := Aside0.mk (Kd.R_below (by (with_reducible repeat (first | apply Kd.R_alloc | apply Kd.R_drewN | apply Kd.R_drew)); exact HO137.out) hb); have n1_ := Aside0.mk (below_step (by repeat (first | (with_reducible first | exact HB.out | apply below_alloc | apply pw_below_drewN | apply below_drew1) | exact HB.out)) hb); have n2_ := Aside0.mk (hbox); have n3_ := Aside0.mk ((by rw [hg]; exact (below_size (by repeat (first | (with_reducible first | exact HB.out | apply below_alloc | apply pw_below_drewN | apply below_drew1) | exact HB.out))) : w.heap.size ≤ gb138)); have n4_ := Aside0.mk ((by rw [hg]; exact (below_size (by repeat (first | (with_reducible first | exact HB.out | apply below_alloc | apply pw_below_drewN | apply below_drew1) | exact HB.out))) : w.heap.size ≤ gb138)); clear HO137; clear HB; have HO137 := n0_; have HB := n1_; have BK138 := n2_; have GW138 := n3_; have GE138 := n4_; clear n0_ n1_ n2_ n3_ n4_; clear hb hbox hg; have hcz17_0 : w16.cell? ⟨gb138, 0, none⟩ = some (.slice A0 l0.length c0) := (blk_cell BK138.out 0).trans rfl; have hcz17_1 : w16.cell? ⟨gb138, 1, none⟩ = some (.slice Ao15 y135.length co15) := (blk_cell BK138.out 1).trans rfl; have hcz17_2 : w16.cell? ⟨gb138, 2, none⟩ = some (.int .i64 0) := (blk_cell BK138.out 2).trans rfl; have hcz17_3 : w16.cell? ⟨gb138, 3, none⟩ = some (.int .i64 0) := (blk_cell BK138.out 3).trans rfl; have hfz17_0 := blk_frozen BK138.out 0; have hfz17_1 := blk_frozen BK138.out 1; have hfz17_2 := blk_frozen BK138.out 2; have hfz17_3 := blk_frozen BK138.out 3) | (go_at_call 34; refine (walk_new HR0.out GE138.out BK138.out HO137.out Ny135.out HB.out HNum.out).mono ?_; rintro e w18 ⟨rfl, hR_, hc_, hb_⟩; clear HO137 HB BK138 hcz17_0 hcz17_1 hcz17_2 hcz17_3 hfz17_0 hfz17_1 hfz17_2 hfz17_3; have HO137 := Aside0.mk hR_; have HB := Aside0.mk hb_; clear hR_ hb_))
          go_ret3
          exact ⟨_, by first | rfl | (simp [errW_none, errW_some] <;> rfl) | (simp [*, errW_none, errW_some] <;> rfl), by (with_reducible repeat (first | apply Kd.R_alloc | apply Kd.R_drewN | apply Kd.R_drew)); exact HO137.out, by repeat (first | (with_reducible first | exact HB.out | apply below_alloc | apply pw_below_drewN | apply below_drew1 | refine below_set ?_ GE138.out) | exact HB.out)⟩
         ·rw [if_neg c12] at H
          exact absurd H (by simp)
        ·rw [if_neg c11] at H
         exact absurd H (by simp)

end Go.Proofs.Ythjcmodhleoocaa.Q
/- FCorporaref10Dominates -/
namespace Go.Proofs.Ythjcmodhleoocaa.Q
open Go.RowKit Go.Proofs.YthjcmodhleoocaaW.PrintWords Go.Proofs.YthjcmodhleoocaaW.PrintLast Go.Proofs.YthjcmodhleoocaaW.PrintMore
attribute [local go_sem] max2_int min2_int max_two min_two max_three min_three max_four min_four   -- for this text's walks alone
set_option linter.unusedVariables false
set_option linter.unusedSimpArgs false

/-! ### corporaref10_Dominates: function 22 -/
def corporaref10_Dominates.f (a0_0 : Int) (a0_1 : Int) (a0_2 : Int) (a1_0 : Int) (a1_1 : Int) (a1_2 : Int) : Option (Bool) := if a0_0 < a1_0 then (some (decide (a0_1 > a1_1))) else (some false)
set_option maxHeartbeats 8000000 in
set_option maxRecDepth 100000 in
theorem corporaref10_Dominates.calls (a0_0 : Int) (a0_1 : Int) (a0_2 : Int) (a1_0 : Int) (a1_1 : Int) (a1_2 : Int) (r : Bool) (w : World) (h : corporaref10_Dominates.f a0_0 a0_1 a0_2 a1_0 a1_1 a1_2 = some r) :
  Calls Try.prog 22 #[.agg #[.int .i64 a0_0, .int .i64 a0_1, .int .i64 a0_2], .agg #[.int .i64 a1_0, .int .i64 a1_1, .int .i64 a1_2]] w fun e w' => e = .returned (.bool r) ∧ Below w.heap.size w w' := by
 have hu43 := Try.underlying43
 have HB := Aside0.mk (Below.refl w.heap.size w)
 have H : (if a0_0 < a1_0 then (some (decide (a0_1 > a1_1))) else (some false)) = some r := h
 clear h
 by_cases c3 : a0_0 < a1_0
 ·rw [if_pos c3] at H
  have c3b0 : decide (a0_0 < a1_0) = true := decide_eq_true c3
  clear c3
  obtain rfl := Option.some.inj H
  go_enter Try.func22, Try.ntmps22
  go_wp2_with (first | ((with_reducible refine gate_dst (N := 2) rfl ?_); refine box_event ?hg (N := 2) ?hd (cs := #[.int .i64 a0_0, .int .i64 a0_1, .int .i64 a0_2]) (t := 43) ?hr ?_; (case hd => rfl); (case hg => rfl); (case hr => first | (go_simp; done) | (go_simp; rfl)); intro gb219 hg w4 hbox hb; have n0_ := Aside0.mk (below_step (by repeat (first | (with_reducible first | exact HB.out | apply below_alloc | apply pw_below_drewN | apply below_drew1) | exact HB.out)) hb); have n1_ := Aside0.mk (hbox); have n2_ := Aside0.mk ((by rw [hg]; exact (below_size (by repeat (first | (with_reducible first | exact HB.out | apply below_alloc | apply pw_below_drewN | apply below_drew1) | exact HB.out))) : w.heap.size ≤ gb219)); have n3_ := Aside0.mk ((by rw [hg]; exact (below_size (by repeat (first | (with_reducible first | exact HB.out | apply below_alloc | apply pw_below_drewN | apply below_drew1) | exact HB.out))) : w.heap.size ≤ gb219)); clear HB; have HB := n0_; have BK219 := n1_; have GW219 := n2_; have GE219 := n3_; clear n0_ n1_ n2_ n3_; clear hb hbox hg) | ((with_reducible refine gate_dst (N := 3) rfl ?_); refine box_event ?hg (N := 3) ?hd (cs := #[.int .i64 a1_0, .int .i64 a1_1, .int .i64 a1_2]) (t := 43) ?hr ?_; (case hd => rfl); (case hg => rfl); (case hr => first | (go_simp; done) | (go_simp; rfl)); intro gb220 hg w5 hbox hb; have n0_ := Aside0.mk (blk_below (g := gb219) (o := .cells #[.int .i64 a0_0, .int .i64 a0_1, .int .i64 a0_2] 43 (0, 0)) (by (with_reducible repeat (first | refine blk_drewN ?_ _ | refine blk_drew ?_ | refine blk_alloc ?_ _)); exact BK219.out) hb); have n1_ := Aside0.mk (below_step (by repeat (first | (with_reducible first | exact HB.out | apply below_alloc | apply pw_below_drewN | apply below_drew1 | refine below_set ?_ GE219.out) | exact HB.out)) hb); have n2_ := Aside0.mk (hbox); have n3_ := Aside0.mk ((by rw [hg]; exact (below_size (by repeat (first | (with_reducible first | exact HB.out | apply below_alloc | apply pw_below_drewN | apply below_drew1 | refine below_set ?_ GE219.out) | exact HB.out))) : w.heap.size ≤ gb220)); have n4_ := Aside0.mk ((by rw [hg]; exact (below_size (by repeat (first | (with_reducible first | exact HB.out | apply below_alloc | apply pw_below_drewN | apply below_drew1 | refine below_set ?_ GE219.out) | exact HB.out))) : w.heap.size ≤ gb220)); have n5_ := Aside0.mk ((by rw [hg]; exact Nat.ne_of_lt (blk_lt (g := gb219) (o := .cells #[.int .i64 a0_0, .int .i64 a0_1, .int .i64 a0_2] 43 (0, 0)) (by (with_reducible repeat (first | refine blk_drewN ?_ _ | refine blk_drew ?_ | refine blk_alloc ?_ _)); exact BK219.out)) : gb219 ≠ gb220)); have n6_ := Aside0.mk ((by rw [hg]; exact Nat.ne_of_gt (blk_lt (g := gb219) (o := .cells #[.int .i64 a0_0, .int .i64 a0_1, .int .i64 a0_2] 43 (0, 0)) (by (with_reducible repeat (first | refine blk_drewN ?_ _ | refine blk_drew ?_ | refine blk_alloc ?_ _)); exact BK219.out)) : gb220 ≠ gb219)); clear BK219; clear HB; have BK219 := n0_; have HB := n1_; have BK220 := n2_; have GW220 := n3_; have GE220 := n4_; have NB219_220 := n5_; have NB220_219 := n6_; clear n0_ n1_ n2_ n3_ n4_ n5_ n6_; clear hb hbox hg; have hnb6 := NB219_220.out; have hnc6 := NB220_219.out; have hcz7_0 : w5.cell? ⟨gb219, 0, none⟩ = some (.int .i64 a0_0) := (blk_cell BK219.out 0).trans rfl; have hcz7_1 : w5.cell? ⟨gb219, 1, none⟩ = some (.int .i64 a0_1) := (blk_cell BK219.out 1).trans rfl; have hcz7_2 : w5.cell? ⟨gb219, 2, none⟩ = some (.int .i64 a0_2) := (blk_cell BK219.out 2).trans rfl; have hfz7_0 := blk_frozen BK219.out 0; have hfz7_1 := blk_frozen BK219.out 1; have hfz7_2 := blk_frozen BK219.out 2; have hcz8_0 : w5.cell? ⟨gb220, 0, none⟩ = some (.int .i64 a1_0) := (blk_cell BK220.out 0).trans rfl; have hcz8_1 : w5.cell? ⟨gb220, 1, none⟩ = some (.int .i64 a1_1) := (blk_cell BK220.out 1).trans rfl; have hcz8_2 : w5.cell? ⟨gb220, 2, none⟩ = some (.int .i64 a1_2) := (blk_cell BK220.out 2).trans rfl; have hfz8_0 := blk_frozen BK220.out 0; have hfz8_1 := blk_frozen BK220.out 1; have hfz8_2 := blk_frozen BK220.out 2))
  go_ret
  exact ⟨by first | rfl | (simp [errW_none, errW_some] <;> rfl) | (simp [*, errW_none, errW_some] <;> rfl), by repeat (first | (with_reducible first | exact HB.out | apply below_alloc | apply pw_below_drewN | apply below_drew1 | refine below_set ?_ GE219.out | refine below_set ?_ GE220.out) | exact HB.out)⟩
 ·rw [if_neg c3] at H
  have c3b0 : decide (a0_0 < a1_0) = false := decide_eq_false c3
  clear c3
  obtain rfl := Option.some.inj H
  go_enter Try.func22, Try.ntmps22
  go_wp2_with (first | ((with_reducible refine gate_dst (N := 2) rfl ?_); refine box_event ?hg (N := 2) ?hd (cs := #[.int .i64 a0_0, .int .i64 a0_1, .int .i64 a0_2]) (t := 43) ?hr ?_; (case hd => rfl); (case hg => rfl); (case hr => first | (go_simp; done) | (go_simp; rfl)); intro gb219 hg w9 hbox hb; have n0_ := Aside0.mk (below_step (by repeat (first | (with_reducible first | exact HB.out | apply below_alloc | apply pw_below_drewN | apply below_drew1) | exact HB.out)) hb); have n1_ := Aside0.mk (hbox); have n2_ := Aside0.mk ((by rw [hg]; exact (below_size (by repeat (first | (with_reducible first | exact HB.out | apply below_alloc | apply pw_below_drewN | apply below_drew1) | exact HB.out))) : w.heap.size ≤ gb219)); have n3_ := Aside0.mk ((by rw [hg]; exact (below_size (by repeat (first | (with_reducible first | exact HB.out | apply below_alloc | apply pw_below_drewN | apply below_drew1) | exact HB.out))) : w.heap.size ≤ gb219)); clear HB; have HB := n0_; have BK219 := n1_; have GW219 := n2_; have GE219 := n3_; clear n0_ n1_ n2_ n3_; clear hb hbox hg) | ((with_reducible refine gate_dst (N := 3) rfl ?_); refine box_event ?hg (N := 3) ?hd (cs := #[.int .i64 a1_0, .int .i64 a1_1, .int .i64 a1_2]) (t := 43) ?hr ?_; (case hd => rfl); (case hg => rfl); (case hr => first | (go_simp; done) | (go_simp; rfl)); intro gb220 hg w10 hbox hb; have n0_ := Aside0.mk (blk_below (g := gb219) (o := .cells #[.int .i64 a0_0, .int .i64 a0_1, .int .i64 a0_2] 43 (0, 0)) (by (with_reducible repeat (first | refine blk_drewN ?_ _ | refine blk_drew ?_ | refine blk_alloc ?_ _)); exact BK219.out) hb); have n1_ := Aside0.mk (below_step (by repeat (first | (with_reducible first | exact HB.out | apply below_alloc | apply pw_below_drewN | apply below_drew1 | refine below_set ?_ GE219.out) | exact HB.out)) hb); have n2_ := Aside0.mk (hbox); have n3_ := Aside0.mk ((by rw [hg]; exact (below_size (by repeat (first | (with_reducible first | exact HB.out | apply below_alloc | apply pw_below_drewN | apply below_drew1 | refine below_set ?_ GE219.out) | exact HB.out))) : w.heap.size ≤ gb220)); have n4_ := Aside0.mk ((by rw [hg]; exact (below_size (by repeat (first | (with_reducible first | exact HB.out | apply below_alloc | apply pw_below_drewN | apply below_drew1 | refine below_set ?_ GE219.out) | exact HB.out))) : w.heap.size ≤ gb220)); have n5_ := Aside0.mk ((by rw [hg]; exact Nat.ne_of_lt (blk_lt (g := gb219) (o := .cells #[.int .i64 a0_0, .int .i64 a0_1, .int .i64 a0_2] 43 (0, 0)) (by (with_reducible repeat (first | refine blk_drewN ?_ _ | refine blk_drew ?_ | refine blk_alloc ?_ _)); exact BK219.out)) : gb219 ≠ gb220)); have n6_ := Aside0.mk ((by rw [hg]; exact Nat.ne_of_gt (blk_lt (g := gb219) (o := .cells #[.int .i64 a0_0, .int .i64 a0_1, .int .i64 a0_2] 43 (0, 0)) (by (with_reducible repeat (first | refine blk_drewN ?_ _ | refine blk_drew ?_ | refine blk_alloc ?_ _)); exact BK219.out)) : gb220 ≠ gb219)); clear BK219; clear HB; have BK219 := n0_; have HB := n1_; have BK220 := n2_; have GW220 := n3_; have GE220 := n4_; have NB219_220 := n5_; have NB220_219 := n6_; clear n0_ n1_ n2_ n3_ n4_ n5_ n6_; clear hb hbox hg; have hnb11 := NB219_220.out; have hnc11 := NB220_219.out; have hcz12_0 : w10.cell? ⟨gb219, 0, none⟩ = some (.int .i64 a0_0) := (blk_cell BK219.out 0).trans rfl; have hcz12_1 : w10.cell? ⟨gb219, 1, none⟩ = some (.int .i64 a0_1) := (blk_cell BK219.out 1).trans rfl; have hcz12_2 : w10.cell? ⟨gb219, 2, none⟩ = some (.int .i64 a0_2) := (blk_cell BK219.out 2).trans rfl; have hfz12_0 := blk_frozen BK219.out 0; have hfz12_1 := blk_frozen BK219.out 1; have hfz12_2 := blk_frozen BK219.out 2; have hcz13_0 : w10.cell? ⟨gb220, 0, none⟩ = some (.int .i64 a1_0) := (blk_cell BK220.out 0).trans rfl; have hcz13_1 : w10.cell? ⟨gb220, 1, none⟩ = some (.int .i64 a1_1) := (blk_cell BK220.out 1).trans rfl; have hcz13_2 : w10.cell? ⟨gb220, 2, none⟩ = some (.int .i64 a1_2) := (blk_cell BK220.out 2).trans rfl; have hfz13_0 := blk_frozen BK220.out 0; have hfz13_1 := blk_frozen BK220.out 1; have hfz13_2 := blk_frozen BK220.out 2))
  go_ret
  exact ⟨by first | rfl | (simp [errW_none, errW_some] <;> rfl) | (simp [*, errW_none, errW_some] <;> rfl), by repeat (first | (with_reducible first | exact HB.out | apply below_alloc | apply pw_below_drewN | apply below_drew1 | refine below_set ?_ GE219.out | refine below_set ?_ GE220.out) | exact HB.out)⟩

end Go.Proofs.Ythjcmodhleoocaa.Q
/- FCorporaref10Parents -/
namespace Go.Proofs.Ythjcmodhleoocaa.Q
open Go.RowKit Go.Proofs.YthjcmodhleoocaaW.PrintWords Go.Proofs.YthjcmodhleoocaaW.PrintLast Go.Proofs.YthjcmodhleoocaaW.PrintMore
attribute [local go_sem] max2_int min2_int max_two min_two max_three min_three max_four min_four   -- for this text's walks alone
set_option linter.unusedVariables false
set_option linter.unusedSimpArgs false
attribute [local go_sem high] eqA43

/-! ### corporaref10_Parents: function 16 -/
mutual
def corporaref10_Parents.l0 : Nat → List (S43) → List Int → List (S43) → Int → Int → Option (List Int × Int)
 | 0, _, _, _, _, _ => none
 | k + 1, x0, x4, x17, x18, x19 => if x19 < x18 then (if 0 ≤ x19 then (if x19 < (x17.length : Int) then (corporaref10_Parents.l1 k x0 x4 (-1) x17 x18 x19 x0 (x0.length : Int) 0 ((rd_T43 x17 x19).f0) ((rd_T43 x17 x19).f1) ((rd_T43 x17 x19).f2)) else (none)) else (none)) else ((corporaref10_Assign.f k x4).bind fun bt230 => (if bt230.2.2 = 0 then (corporaref10_Parents.l2 k x0 x4 bt230.1 (x0.length : Int) 0) else (some (([] : List Int), 9))))
def corporaref10_Parents.l1 : Nat → List (S43) → List Int → Int → List (S43) → Int → Int → List (S43) → Int → Int → Int → Int → Int → Option (List Int × Int)
 | 0, _, _, _, _, _, _, _, _, _, _, _, _ => none
 | k + 1, x0, x4, x7, x17, x18, x19, x23, x24, x25, x223000, x223001, x223002 => if x25 < x24 then (if 0 ≤ x25 then (if x25 < (x23.length : Int) then ((corporaref10_Dominates.f ((rd_T43 x23 x25).f0) ((rd_T43 x23 x25).f1) ((rd_T43 x23 x25).f2) x223000 x223001 x223002).bind fun t225 => (if t225 = true then (if x7 < 0 then (corporaref10_Parents.l1 k x0 x4 x25 x17 x18 x19 x23 x24 (wrap64 (x25 + 1)) x223000 x223001 x223002) else (if 0 ≤ x7 then (if x7 < (x0.length : Int) then (if ((rd_T43 x23 x25).f2) > ((rd_T43 x0 x7).f2) then (corporaref10_Parents.l1 k x0 x4 x25 x17 x18 x19 x23 x24 (wrap64 (x25 + 1)) x223000 x223001 x223002) else (corporaref10_Parents.l1 k x0 x4 x7 x17 x18 x19 x23 x24 (wrap64 (x25 + 1)) x223000 x223001 x223002)) else (none)) else (none))) else (corporaref10_Parents.l1 k x0 x4 x7 x17 x18 x19 x23 x24 (wrap64 (x25 + 1)) x223000 x223001 x223002))) else (none)) else (none)) else (if x4.length < 17592186044416 then (corporaref10_Parents.l0 k x0 (x4 ++ [x7]) x17 x18 (wrap64 (x19 + 1))) else (none))
def corporaref10_Parents.l2 : Nat → List (S43) → List Int → List (S43) → Int → Int → Option (List Int × Int)
 | 0, _, _, _, _, _ => none
 | k + 1, x0, x4, x10, x63, x64 => if x64 < x63 then (if 0 ≤ x64 then (if x64 < (x10.length : Int) then (if x64 < (x0.length : Int) then (if (!(((rd_T43 x10 x64).f0) == ((rd_T43 x0 x64).f0)) || (!(((rd_T43 x10 x64).f1) == ((rd_T43 x0 x64).f1)) || (!(((rd_T43 x10 x64).f2) == ((rd_T43 x0 x64).f2))))) = true then (some (([] : List Int), 9)) else (corporaref10_Parents.l2 k x0 x4 x10 x63 (wrap64 (x64 + 1)))) else (none)) else (none)) else (none)) else (some (x4, 0))
end
def corporaref10_Parents.f (k : Nat) (l0 : List (S43)) : Option (List Int × Int) := if (l0.length : Int) > 4096 then (some (([] : List Int), 2)) else (corporaref10_Parents.l0 k l0 ([] : List Int) l0 (l0.length : Int) 0)
theorem corporaref10_Parents.mono_l : ∀ k, (∀ y0 y1 y2 y3 y4, LeO (corporaref10_Parents.l0 k y0 y1 y2 y3 y4) (corporaref10_Parents.l0 (k + 1) y0 y1 y2 y3 y4)) ∧ (∀ y0 y1 y2 y3 y4 y5 y6 y7 y8 y9 y10 y11, LeO (corporaref10_Parents.l1 k y0 y1 y2 y3 y4 y5 y6 y7 y8 y9 y10 y11) (corporaref10_Parents.l1 (k + 1) y0 y1 y2 y3 y4 y5 y6 y7 y8 y9 y10 y11)) ∧ (∀ y0 y1 y2 y3 y4, LeO (corporaref10_Parents.l2 k y0 y1 y2 y3 y4) (corporaref10_Parents.l2 (k + 1) y0 y1 y2 y3 y4))
 | 0 => ⟨fun _ _ _ _ _ r h => by simp [corporaref10_Parents.l0] at h, fun _ _ _ _ _ _ _ _ _ _ _ _ r h => by simp [corporaref10_Parents.l1] at h, fun _ _ _ _ _ r h => by simp [corporaref10_Parents.l2] at h⟩
 | k + 1 => by
  obtain ⟨ih0, ih1, ih2⟩ := corporaref10_Parents.mono_l k
  refine ⟨?_, ?_, ?_⟩
  ·intro y0 y1 y2 y3 y4
   unfold corporaref10_Parents.l0
   repeat' first
   | (with_reducible exact ih0 _ _ _ _ _)
   | (with_reducible exact ih1 _ _ _ _ _ _ _ _ _ _ _ _)
   | (with_reducible exact ih2 _ _ _ _ _)
   | (with_reducible exact corporaref10_Assign.mono _ _)
   | (with_reducible exact LeO.refl _)
   | (with_reducible exact LeO.none _)
   | (with_reducible refine LeO.ite ?_ ?_)
   | (with_reducible refine LeO.bind ?_ (fun _ => ?_))
   | exact ih0 _ _ _ _ _
   | exact ih1 _ _ _ _ _ _ _ _ _ _ _ _
   | exact ih2 _ _ _ _ _
   | exact corporaref10_Assign.mono _ _
   | exact LeO.none _
   | refine LeO.ite ?_ ?_
   | refine LeO.bind ?_ (fun _ => ?_)
  ·intro y0 y1 y2 y3 y4 y5 y6 y7 y8 y9 y10 y11
   unfold corporaref10_Parents.l1
   repeat' first
   | (with_reducible exact ih0 _ _ _ _ _)
   | (with_reducible exact ih1 _ _ _ _ _ _ _ _ _ _ _ _)
   | (with_reducible exact ih2 _ _ _ _ _)
   | (with_reducible exact corporaref10_Assign.mono _ _)
   | (with_reducible exact LeO.refl _)
   | (with_reducible exact LeO.none _)
   | (with_reducible refine LeO.ite ?_ ?_)
   | (with_reducible refine LeO.bind ?_ (fun _ => ?_))
   | exact ih0 _ _ _ _ _
   | exact ih1 _ _ _ _ _ _ _ _ _ _ _ _
   | exact ih2 _ _ _ _ _
   | exact corporaref10_Assign.mono _ _
   | exact LeO.none _
   | refine LeO.ite ?_ ?_
   | refine LeO.bind ?_ (fun _ => ?_)
  ·intro y0 y1 y2 y3 y4
   unfold corporaref10_Parents.l2
   repeat' first
   | (with_reducible exact ih0 _ _ _ _ _)
   | (with_reducible exact ih1 _ _ _ _ _ _ _ _ _ _ _ _)
   | (with_reducible exact ih2 _ _ _ _ _)
   | (with_reducible exact corporaref10_Assign.mono _ _)
   | (with_reducible exact LeO.refl _)
   | (with_reducible exact LeO.none _)
   | (with_reducible refine LeO.ite ?_ ?_)
   | (with_reducible refine LeO.bind ?_ (fun _ => ?_))
   | exact ih0 _ _ _ _ _
   | exact ih1 _ _ _ _ _ _ _ _ _ _ _ _
   | exact ih2 _ _ _ _ _
   | exact corporaref10_Assign.mono _ _
   | exact LeO.none _
   | refine LeO.ite ?_ ?_
   | refine LeO.bind ?_ (fun _ => ?_)
theorem corporaref10_Parents.mono : ∀ a0 k, LeO (corporaref10_Parents.f k a0) (corporaref10_Parents.f (k + 1) a0) := by
 intro a0 k
 obtain ⟨ih0, ih1, ih2⟩ := corporaref10_Parents.mono_l k
 unfold corporaref10_Parents.f
 repeat' first
   | (with_reducible exact ih0 _ _ _ _ _)
   | (with_reducible exact ih1 _ _ _ _ _ _ _ _ _ _ _ _)
   | (with_reducible exact ih2 _ _ _ _ _)
   | (with_reducible exact corporaref10_Assign.mono _ _)
   | (with_reducible exact LeO.refl _)
   | (with_reducible exact LeO.none _)
   | (with_reducible refine LeO.ite ?_ ?_)
   | (with_reducible refine LeO.bind ?_ (fun _ => ?_))
   | exact ih0 _ _ _ _ _
   | exact ih1 _ _ _ _ _ _ _ _ _ _ _ _
   | exact ih2 _ _ _ _ _
   | exact corporaref10_Assign.mono _ _
   | exact LeO.none _
   | refine LeO.ite ?_ ?_
   | refine LeO.bind ?_ (fun _ => ?_)
def corporaref10_Parents.T11 : Bool × List (List Nat × List Nat) := (true, [([], []), ([], []), ([0, 1], [0, 1]), ([2, 2], [2]), ([3], [3]), ([4, 3], [3, 4]), ([5, 3, 3], [3, 5]), ([6], [6]), ([7, 6], [6, 7]), ([6], [6]), ([6], [6]), ([9, 10, 6], [6, 9, 10]), ([11, 6], [6, 11]), ([12, 6], [6, 12]), ([8, 13, 6], [6, 8, 13]), ([6, 14, 3], [3, 6, 14]), ([3, 15], [3, 15])])
def corporaref10_Parents.B11 : List Nat := [0, 0, 3, 7, 15, 31, 63, 127, 255, 127, 127, 1663, 3711, 7807, 16383, 32767, 65535]
theorem corporaref10_Parents.tab11 : rtab .any (opsOf Try.f16 11) = corporaref10_Parents.T11 := by kernel_rfl
theorem corporaref10_Parents.bits11 : waitsOk corporaref10_Parents.T11.2 corporaref10_Parents.B11 = true := by kernel_rfl
def corporaref10_Parents.T22 : Bool × List (List Nat × List Nat) := (true, [([], []), ([], []), ([0, 1], [0, 1]), ([2], [2]), ([], []), ([], []), ([4, 5], [4, 5]), ([6], [6]), ([3, 7], [3, 7])])
def corporaref10_Parents.B22 : List Nat := [0, 0, 3, 7, 0, 0, 48, 112, 255]
theorem corporaref10_Parents.tab22 : rtab .any (opsOf Try.f16 22) = corporaref10_Parents.T22 := by kernel_rfl
theorem corporaref10_Parents.bits22 : waitsOk corporaref10_Parents.T22.2 corporaref10_Parents.B22 = true := by kernel_rfl
set_option maxHeartbeats 8000000 in
set_option maxRecDepth 100000 in
theorem corporaref10_Parents.calls (k : Nat) (A0 : Option Addr) (c0 : Nat) (l0 : List (S43)) (r1 : List Int) (r2 : Int) (w : World) (hr0 : Kd.C k43 w A0 l0.length l0) (hc0 : l0.length ≤ c0) (h : corporaref10_Parents.f k l0 = some (r1, r2)) :
  Calls Try.prog 16 #[.slice A0 l0.length c0] w fun e w' => ∃ v0_ : Value, e = .returned (.tuple #[v0_, .int .i64 r2]) ∧ Kd.R (Kd.int .i64) 3 w' w.heap.size (fun _ => True) v0_ r1 ∧ Below w.heap.size w w' := by
 have hu43 := Try.underlying43
 have HR0 := Aside0.mk hr0
 have HC0 := Aside0.mk hc0
 clear hr0 hc0
 have HB := Aside0.mk (Below.refl w.heap.size w)
 have H : (if (l0.length : Int) > 4096 then (some (([] : List Int), 2)) else (corporaref10_Parents.l0 k l0 ([] : List Int) l0 (l0.length : Int) 0)) = some (r1, r2) := h
 clear h
 by_cases c2 : (l0.length : Int) > 4096
 ·rw [if_pos c2] at H
  have c2b0 : decide (4096 < (l0.length : Int)) = true := decide_eq_true c2
  have c2b1 : decide (4096 < l0.length) = true := decide_eq_true (by omega)
  clear c2
  simp only [Option.some.injEq, Prod.mk.injEq] at H
  obtain ⟨rfl, rfl⟩ := H
  go_enter Try.func16, Try.ntmps16
  go_wp2
  go_ret2
  exact ⟨_, by first | rfl | (simp [errW_none, errW_some] <;> rfl) | (simp [*, errW_none, errW_some] <;> rfl), by first | exact Kd.R_nil _ _ _ _ _ | exact Kd.N_nil _ _ _ _ _ | exact Kd.V_nil _ _ _ _ _ | exact Kd.Q_nil _ _ _ _ _ | exact Kd.S_nil _ _ _ _ _, by repeat (first | (with_reducible first | exact HB.out | apply below_alloc | apply pw_below_drewN | apply below_drew1) | exact HB.out)⟩
 ·rw [if_neg c2] at H
  have c2b0 : decide (4096 < (l0.length : Int)) = false := decide_eq_false c2
  have c2b1 : decide (4096 < l0.length) = false := decide_eq_false (by omega)
  clear c2
  have H' := Aside0.mk H
  clear H
  go_enter Try.func16, Try.ntmps16
  go_wp2
  go_loopg [4, 19] k (fun kq v4 v19 w' => ∃ (x4_1 : List Int) (x19_1 : Int), v19 = .int .i64 x19_1 ∧ Aside0 (corporaref10_Parents.l0 kq l0 x4_1 l0 (l0.length : Int) x19_1 = some (r1, r2)) ∧ Aside0 (kq ≤ k) ∧ Aside0 (Kd.R (Kd.int .i64) 3 w' w.heap.size (fun _ => True) v4 x4_1) ∧ Aside0 (Below w.heap.size w w'))
  case atStart => exact ⟨(([] : List Int)), (0), (by first | rfl | (simp; done) | (simp [*]; done)), H', ⟨Nat.le_refl _⟩, ⟨by first | exact Kd.R_nil _ _ _ _ _ | exact Kd.N_nil _ _ _ _ _ | exact Kd.V_nil _ _ _ _ _ | exact Kd.Q_nil _ _ _ _ _ | exact Kd.S_nil _ _ _ _ _⟩, ⟨by repeat (first | (with_reducible first | exact HB.out | apply below_alloc | apply pw_below_drewN | apply below_drew1) | exact HB.out)⟩⟩
  case round =>
   clear H'
   try clear c1
   try clear c2
   try clear c2b0
   try clear c2b1
   try clear p2
   obtain ⟨x4_1, x19_1, rfl, HA, HK1, HO_4, HB⟩ := hrel
   cases gk with
   | zero => exact absurd HA.out (by simp [corporaref10_Parents.l0])
   | succ k1 =>
    have H := HA.out
    clear HA
    simp only [corporaref10_Parents.l0] at H
    by_cases c3 : x19_1 < (l0.length : Int)
    ·rw [if_pos c3] at H
     have c3b0 : decide (x19_1 < (l0.length : Int)) = true := decide_eq_true c3
     clear c3
     by_cases c4 : 0 ≤ x19_1
     ·rw [if_pos c4] at H
      have c4b0 : decide (0 ≤ x19_1) = true := decide_eq_true c4
      clear c4
      by_cases c5 : x19_1 < (l0.length : Int)
      ·rw [if_pos c5] at H
       have c5b0 : decide (x19_1 < (l0.length : Int)) = true := decide_eq_true c5
       clear c5
       have H' := Aside0.mk H
       clear H
       have p221 : 0 ≤ (x19_1 : Int) := of_decide_eq_true (by first | (with_reducible assumption) | assumption)
       have q221 : x19_1 < (l0.length : Int) := of_decide_eq_true (by first | (with_reducible assumption) | assumption)
       obtain ⟨ad221, e221, hx221_0, hx221_1, hx221_2⟩ := at_T43 HR0.out x19_1 p221 q221
       cases e221
       replace hx221_0 := (HB.out.cell (World.block_lt_of_cell? w _ hx221_0)).trans hx221_0
       replace hx221_1 := (HB.out.cell (World.block_lt_of_cell? w _ hx221_1)).trans hx221_1
       replace hx221_2 := (HB.out.cell (World.block_lt_of_cell? w _ hx221_2)).trans hx221_2
       replace p221 := eq_true p221
       replace q221 := eq_true q221
       go_wp2_with (first | ((with_reducible refine gate_dst (N := 6) rfl ?_); refine box_event ?hg (N := 6) ?hd (cs := #[.int .i64 0, .int .i64 0, .int .i64 0]) (t := 43) ?hr ?_; (case hd => rfl); (case hg => rfl); (case hr => first | (go_simp; done) | (go_simp; rfl)); intro gb222 hg w6 hbox hb; have n0_ := Aside0.mk (Kd.R_below (by (with_reducible repeat (first | apply Kd.R_alloc | apply Kd.R_drewN | apply Kd.R_drew)); exact HO_4.out) hb); have n1_ := Aside0.mk (below_step (by repeat (first | (with_reducible first | exact HB.out | apply below_alloc | apply pw_below_drewN | apply below_drew1) | exact HB.out)) hb); have n2_ := Aside0.mk (hbox); have n3_ := Aside0.mk ((by rw [hg]; exact (below_size (by repeat (first | (with_reducible first | exact HB.out | apply below_alloc | apply pw_below_drewN | apply below_drew1) | exact HB.out))) : w.heap.size ≤ gb222)); have n4_ := Aside0.mk ((by rw [hg]; exact (below_size (by repeat (first | (with_reducible first | exact HB.out | apply below_alloc | apply pw_below_drewN | apply below_drew1) | exact HB.out))) : w.heap.size ≤ gb222)); clear HO_4; clear HB; have HO_4 := n0_; have HB := n1_; have BK222 := n2_; have GW222 := n3_; have GE222 := n4_; clear n0_ n1_ n2_ n3_ n4_; clear hb hbox hg; have hcz7_0 : w6.cell? ⟨gb222, 0, none⟩ = some (.int .i64 0) := (blk_cell BK222.out 0).trans rfl; have hcz7_1 : w6.cell? ⟨gb222, 1, none⟩ = some (.int .i64 0) := (blk_cell BK222.out 1).trans rfl; have hcz7_2 : w6.cell? ⟨gb222, 2, none⟩ = some (.int .i64 0) := (blk_cell BK222.out 2).trans rfl; have hfz7_0 := blk_frozen BK222.out 0; have hfz7_1 := blk_frozen BK222.out 1; have hfz7_2 := blk_frozen BK222.out 2))
       go_loopg [7, 25] k1 (fun kq v7 v25 w' => ∃ (x7_2 : Int) (x25_2 : Int), v7 = .int .i64 x7_2 ∧ v25 = .int .i64 x25_2 ∧ Aside0 (corporaref10_Parents.l1 kq l0 x4_1 x7_2 l0 (l0.length : Int) x19_1 l0 (l0.length : Int) x25_2 ((rd_T43 l0 x19_1).f0) ((rd_T43 l0 x19_1).f1) ((rd_T43 l0 x19_1).f2) = some (r1, r2)) ∧ Aside0 (kq ≤ k1) ∧ Aside0 (Kd.R (Kd.int .i64) 3 w' w.heap.size (fun _ => True) u4 x4_1) ∧ Aside0 (w'.heap[gb222]? = some (.cells #[.int .i64 ((rd_T43 l0 x19_1).f0), .int .i64 ((rd_T43 l0 x19_1).f1), .int .i64 ((rd_T43 l0 x19_1).f2)] 43 (0, 0))) ∧ Aside0 (Below w.heap.size w w'))
       case atStart => exact ⟨((-1)), (0), (by first | rfl | (simp; done) | (simp [*]; done)), (by first | rfl | (simp; done) | (simp [*]; done)), H', ⟨Nat.le_refl _⟩, ⟨by (with_reducible repeat (first | apply Kd.R_alloc | apply Kd.R_drewN | apply Kd.R_drew)); exact Kd.R_mono (Kd.R_far (p := ⟨gb222, 2, none⟩) (Kd.R_far (p := ⟨gb222, 1, none⟩) (Kd.R_far (p := ⟨gb222, 0, none⟩) (Kd.R_types HO_4.out BK222.out (by decide)) (fun _ hk => hk.2) (.int .i64 ((rd_T43 l0 x19_1).f0))) (fun _ hk => hk.2) (.int .i64 ((rd_T43 l0 x19_1).f1))) (fun _ hk => hk.2) (.int .i64 ((rd_T43 l0 x19_1).f2))) (fun _ hk => trivial)⟩, ⟨by (with_reducible repeat (first | refine blk_drewN ?_ _ | refine blk_drew ?_ | refine blk_alloc ?_ _)); refine blk_put (cs := #[.int .i64 ((rd_T43 l0 x19_1).f0), .int .i64 ((rd_T43 l0 x19_1).f1), .int .i64 0]) ?_ 2 _ rfl; (with_reducible repeat (first | refine blk_drewN ?_ _ | refine blk_drew ?_ | refine blk_alloc ?_ _)); refine blk_put (cs := #[.int .i64 ((rd_T43 l0 x19_1).f0), .int .i64 0, .int .i64 0]) ?_ 1 _ rfl; (with_reducible repeat (first | refine blk_drewN ?_ _ | refine blk_drew ?_ | refine blk_alloc ?_ _)); refine blk_put (cs := #[.int .i64 0, .int .i64 0, .int .i64 0]) ?_ 0 _ rfl; (with_reducible repeat (first | refine blk_drewN ?_ _ | refine blk_drew ?_ | refine blk_alloc ?_ _)); exact BK222.out⟩, ⟨by repeat (first | (with_reducible first | exact HB.out | apply below_alloc | apply pw_below_drewN | apply below_drew1 | refine below_set ?_ GE222.out) | exact HB.out)⟩⟩
       case round =>
        clear H'
        try clear c1
        try clear c2
        try clear c2b0
        try clear c2b1
        try clear p2
        try clear q2
        try clear hx2
        try clear c3
        try clear c3b0
        try clear c4
        try clear c4b0
        try clear c5
        try clear c5b0
        try clear hcz7_0
        try clear hcz7_1
        try clear hcz7_2
        try clear hfz7_0
        try clear hfz7_1
        try clear hfz7_2
        try clear hx221_0
        try clear hx221_1
        try clear hx221_2
        try clear p2
        try clear p221
        try clear q221
        obtain ⟨x7_2, x25_2, rfl, rfl, HA, HK2, HO_4, BK222, HB⟩ := hrel
        cases gk with
        | zero => exact absurd HA.out (by simp [corporaref10_Parents.l1])
        | succ k2 =>
         have H := HA.out
         clear HA
         simp only [corporaref10_Parents.l1] at H
         by_cases c8 : x25_2 < (l0.length : Int)
         ·rw [if_pos c8] at H
          have c8b0 : decide (x25_2 < (l0.length : Int)) = true := decide_eq_true c8
          clear c8
          by_cases c9 : 0 ≤ x25_2
          ·rw [if_pos c9] at H
           have c9b0 : decide (0 ≤ x25_2) = true := decide_eq_true c9
           clear c9
           by_cases c10 : x25_2 < (l0.length : Int)
           ·rw [if_pos c10] at H
            have c10b0 : decide (x25_2 < (l0.length : Int)) = true := decide_eq_true c10
            clear c10
            replace H := Option.bind_eq_some_iff.mp H
            obtain ⟨t225, A110, H⟩ := H
            replace H : (if t225 = true then (if x7_2 < 0 then (corporaref10_Parents.l1 k2 l0 x4_1 x25_2 l0 (l0.length : Int) x19_1 l0 (l0.length : Int) (wrap64 (x25_2 + 1)) ((rd_T43 l0 x19_1).f0) ((rd_T43 l0 x19_1).f1) ((rd_T43 l0 x19_1).f2)) else (if 0 ≤ x7_2 then (if x7_2 < (l0.length : Int) then (if ((rd_T43 l0 x25_2).f2) > ((rd_T43 l0 x7_2).f2) then (corporaref10_Parents.l1 k2 l0 x4_1 x25_2 l0 (l0.length : Int) x19_1 l0 (l0.length : Int) (wrap64 (x25_2 + 1)) ((rd_T43 l0 x19_1).f0) ((rd_T43 l0 x19_1).f1) ((rd_T43 l0 x19_1).f2)) else (corporaref10_Parents.l1 k2 l0 x4_1 x7_2 l0 (l0.length : Int) x19_1 l0 (l0.length : Int) (wrap64 (x25_2 + 1)) ((rd_T43 l0 x19_1).f0) ((rd_T43 l0 x19_1).f1) ((rd_T43 l0 x19_1).f2))) else (none)) else (none))) else (corporaref10_Parents.l1 k2 l0 x4_1 x7_2 l0 (l0.length : Int) x19_1 l0 (l0.length : Int) (wrap64 (x25_2 + 1)) ((rd_T43 l0 x19_1).f0) ((rd_T43 l0 x19_1).f1) ((rd_T43 l0 x19_1).f2))) = some (r1, r2) := H
            have A11 := Aside0.mk A110
            clear A110
            by_cases c12 : t225 = true
            ·subst c12
             have H1 : (if x7_2 < 0 then (corporaref10_Parents.l1 k2 l0 x4_1 x25_2 l0 (l0.length : Int) x19_1 l0 (l0.length : Int) (wrap64 (x25_2 + 1)) ((rd_T43 l0 x19_1).f0) ((rd_T43 l0 x19_1).f1) ((rd_T43 l0 x19_1).f2)) else (if 0 ≤ x7_2 then (if x7_2 < (l0.length : Int) then (if ((rd_T43 l0 x25_2).f2) > ((rd_T43 l0 x7_2).f2) then (corporaref10_Parents.l1 k2 l0 x4_1 x25_2 l0 (l0.length : Int) x19_1 l0 (l0.length : Int) (wrap64 (x25_2 + 1)) ((rd_T43 l0 x19_1).f0) ((rd_T43 l0 x19_1).f1) ((rd_T43 l0 x19_1).f2)) else (corporaref10_Parents.l1 k2 l0 x4_1 x7_2 l0 (l0.length : Int) x19_1 l0 (l0.length : Int) (wrap64 (x25_2 + 1)) ((rd_T43 l0 x19_1).f0) ((rd_T43 l0 x19_1).f1) ((rd_T43 l0 x19_1).f2))) else (none)) else (none))) = some (r1, r2) := by rw [if_pos rfl] at H; exact H
             clear H
             have H := H1
             clear H1
             by_cases c13 : x7_2 < 0
             ·rw [if_pos c13] at H
              have c13b0 : decide (x7_2 < 0) = true := decide_eq_true c13
              clear c13
              have H' := Aside0.mk H
              clear H
              have p223 : 0 ≤ (x25_2 : Int) := of_decide_eq_true (by first | (with_reducible assumption) | assumption)
              have q223 : x25_2 < (l0.length : Int) := of_decide_eq_true (by first | (with_reducible assumption) | assumption)
              obtain ⟨ad223, e223, hx223_0, hx223_1, hx223_2⟩ := at_T43 HR0.out x25_2 p223 q223
              obtain rfl : ad221 = ad223 := (by injection e223)
              replace hx223_0 := (HB.out.cell (World.block_lt_of_cell? w _ hx223_0)).trans hx223_0
              replace hx223_1 := (HB.out.cell (World.block_lt_of_cell? w _ hx223_1)).trans hx223_1
              replace hx223_2 := (HB.out.cell (World.block_lt_of_cell? w _ hx223_2)).trans hx223_2
              replace p223 := eq_true p223
              replace q223 := eq_true q223
              try go_wp2_with (first | ((with_reducible refine gate_dst (N := 9) rfl ?_); refine box_event ?hg (N := 9) ?hd (cs := #[.int .i64 0, .int .i64 0, .int .i64 0]) (t := 43) ?hr ?_; (case hd => rfl); (case hg => rfl); (case hr => first | (go_simp; done) | (go_simp; rfl)); intro gb224 hg w14 hbox hb; have n0_ := Aside0.mk (Kd.R_below (by (with_reducible repeat (first | apply Kd.R_alloc | apply Kd.R_drewN | apply Kd.R_drew)); exact HO_4.out) hb); have n1_ := Aside0.mk (blk_below (g := gb222) (o := .cells #[.int .i64 ((rd_T43 l0 x19_1).f0), .int .i64 ((rd_T43 l0 x19_1).f1), .int .i64 ((rd_T43 l0 x19_1).f2)] 43 (0, 0)) (by (with_reducible repeat (first | refine blk_drewN ?_ _ | refine blk_drew ?_ | refine blk_alloc ?_ _)); exact BK222.out) hb); have n2_ := Aside0.mk (below_step (by repeat (first | (with_reducible first | exact HB.out | apply below_alloc | apply pw_below_drewN | apply below_drew1 | refine below_set ?_ GE222.out) | exact HB.out)) hb); have n3_ := Aside0.mk (hbox); have n4_ := Aside0.mk ((by rw [hg]; exact (below_size (by repeat (first | (with_reducible first | exact HB.out | apply below_alloc | apply pw_below_drewN | apply below_drew1 | refine below_set ?_ GE222.out) | exact HB.out))) : w.heap.size ≤ gb224)); have n5_ := Aside0.mk ((by rw [hg]; exact (below_size (by repeat (first | (with_reducible first | exact HB.out | apply below_alloc | apply pw_below_drewN | apply below_drew1 | refine below_set ?_ GE222.out) | exact HB.out))) : w.heap.size ≤ gb224)); have n6_ := Aside0.mk ((by rw [hg]; exact Nat.ne_of_lt (blk_lt (g := gb222) (o := .cells #[.int .i64 ((rd_T43 l0 x19_1).f0), .int .i64 ((rd_T43 l0 x19_1).f1), .int .i64 ((rd_T43 l0 x19_1).f2)] 43 (0, 0)) (by (with_reducible repeat (first | refine blk_drewN ?_ _ | refine blk_drew ?_ | refine blk_alloc ?_ _)); exact BK222.out)) : gb222 ≠ gb224)); have n7_ := Aside0.mk ((by rw [hg]; exact Nat.ne_of_gt (blk_lt (g := gb222) (o := .cells #[.int .i64 ((rd_T43 l0 x19_1).f0), .int .i64 ((rd_T43 l0 x19_1).f1), .int .i64 ((rd_T43 l0 x19_1).f2)] 43 (0, 0)) (by (with_reducible repeat (first | refine blk_drewN ?_ _ | refine blk_drew ?_ | refine blk_alloc ?_ _)); exact BK222.out)) : gb224 ≠ gb222)); clear HO_4; clear BK222; clear HB; have HO_4 := n0_; have BK222 := n1_; have HB := n2_; have BK224 := n3_; have GW224 := n4_; have GE224 := n5_; have NB222_224 := n6_; have NB224_222 := n7_; clear n0_ n1_ n2_ n3_ n4_ n5_ n6_ n7_; clear hb hbox hg; have hnb15 := NB224_222.out; have hnc15 := NB222_224.out; have hcz16_0 : w14.cell? ⟨gb224, 0, none⟩ = some (.int .i64 0) := (blk_cell BK224.out 0).trans rfl; have hcz16_1 : w14.cell? ⟨gb224, 1, none⟩ = some (.int .i64 0) := (blk_cell BK224.out 1).trans rfl; have hcz16_2 : w14.cell? ⟨gb224, 2, none⟩ = some (.int .i64 0) := (blk_cell BK224.out 2).trans rfl; have hfz16_0 := blk_frozen BK224.out 0; have hfz16_1 := blk_frozen BK224.out 1; have hfz16_2 := blk_frozen BK224.out 2))
              have n0_ : Aside0 (Kd.R (Kd.int .i64) 3 (((w14.setCell ⟨gb224, 0, none⟩ (.int .i64 ((rd_T43 l0 x25_2).f0))).setCell ⟨gb224, 1, none⟩ (.int .i64 ((rd_T43 l0 x25_2).f1))).setCell ⟨gb224, 2, none⟩ (.int .i64 ((rd_T43 l0 x25_2).f2))) w.heap.size (fun _ => True) u4 x4_1) := ⟨by (with_reducible repeat (first | apply Kd.R_alloc | apply Kd.R_drewN | apply Kd.R_drew)); exact Kd.R_mono (Kd.R_far (p := ⟨gb224, 2, none⟩) (Kd.R_far (p := ⟨gb224, 1, none⟩) (Kd.R_far (p := ⟨gb224, 0, none⟩) (Kd.R_types HO_4.out BK224.out (by decide)) (fun _ hk => hk.2) (.int .i64 ((rd_T43 l0 x25_2).f0))) (fun _ hk => hk.2) (.int .i64 ((rd_T43 l0 x25_2).f1))) (fun _ hk => hk.2) (.int .i64 ((rd_T43 l0 x25_2).f2))) (fun _ hk => trivial)⟩
              have n1_ : Aside0 ((((w14.setCell ⟨gb224, 0, none⟩ (.int .i64 ((rd_T43 l0 x25_2).f0))).setCell ⟨gb224, 1, none⟩ (.int .i64 ((rd_T43 l0 x25_2).f1))).setCell ⟨gb224, 2, none⟩ (.int .i64 ((rd_T43 l0 x25_2).f2))).heap[gb222]? = some (.cells #[.int .i64 ((rd_T43 l0 x19_1).f0), .int .i64 ((rd_T43 l0 x19_1).f1), .int .i64 ((rd_T43 l0 x19_1).f2)] 43 (0, 0))) := ⟨by (with_reducible repeat (first | refine blk_drewN ?_ _ | refine blk_drew ?_ | refine blk_alloc ?_ _)); refine blk_far ?_ NB222_224.out _; (with_reducible repeat (first | refine blk_drewN ?_ _ | refine blk_drew ?_ | refine blk_alloc ?_ _)); refine blk_far ?_ NB222_224.out _; (with_reducible repeat (first | refine blk_drewN ?_ _ | refine blk_drew ?_ | refine blk_alloc ?_ _)); refine blk_far ?_ NB222_224.out _; (with_reducible repeat (first | refine blk_drewN ?_ _ | refine blk_drew ?_ | refine blk_alloc ?_ _)); exact BK222.out⟩
              have n2_ : Aside0 ((((w14.setCell ⟨gb224, 0, none⟩ (.int .i64 ((rd_T43 l0 x25_2).f0))).setCell ⟨gb224, 1, none⟩ (.int .i64 ((rd_T43 l0 x25_2).f1))).setCell ⟨gb224, 2, none⟩ (.int .i64 ((rd_T43 l0 x25_2).f2))).heap[gb224]? = some (.cells #[.int .i64 ((rd_T43 l0 x25_2).f0), .int .i64 ((rd_T43 l0 x25_2).f1), .int .i64 ((rd_T43 l0 x25_2).f2)] 43 (0, 0))) := ⟨by (with_reducible repeat (first | refine blk_drewN ?_ _ | refine blk_drew ?_ | refine blk_alloc ?_ _)); refine blk_put (cs := #[.int .i64 ((rd_T43 l0 x25_2).f0), .int .i64 ((rd_T43 l0 x25_2).f1), .int .i64 0]) ?_ 2 _ rfl; (with_reducible repeat (first | refine blk_drewN ?_ _ | refine blk_drew ?_ | refine blk_alloc ?_ _)); refine blk_put (cs := #[.int .i64 ((rd_T43 l0 x25_2).f0), .int .i64 0, .int .i64 0]) ?_ 1 _ rfl; (with_reducible repeat (first | refine blk_drewN ?_ _ | refine blk_drew ?_ | refine blk_alloc ?_ _)); refine blk_put (cs := #[.int .i64 0, .int .i64 0, .int .i64 0]) ?_ 0 _ rfl; (with_reducible repeat (first | refine blk_drewN ?_ _ | refine blk_drew ?_ | refine blk_alloc ?_ _)); exact BK224.out⟩
              have n3_ : Aside0 (Below w.heap.size w (((w14.setCell ⟨gb224, 0, none⟩ (.int .i64 ((rd_T43 l0 x25_2).f0))).setCell ⟨gb224, 1, none⟩ (.int .i64 ((rd_T43 l0 x25_2).f1))).setCell ⟨gb224, 2, none⟩ (.int .i64 ((rd_T43 l0 x25_2).f2)))) := ⟨by repeat (first | (with_reducible first | exact HB.out | apply below_alloc | apply pw_below_drewN | apply below_drew1 | refine below_set ?_ GE222.out | refine below_set ?_ GE224.out) | exact HB.out)⟩
              (try clear HO_4)
              (try clear BK222)
              (try clear BK224)
              (try clear HB)
              generalize (((w14.setCell ⟨gb224, 0, none⟩ (.int .i64 ((rd_T43 l0 x25_2).f0))).setCell ⟨gb224, 1, none⟩ (.int .i64 ((rd_T43 l0 x25_2).f1))).setCell ⟨gb224, 2, none⟩ (.int .i64 ((rd_T43 l0 x25_2).f2))) = w17 at n0_ n1_ n2_ n3_ ⊢
              have HO_4 := n0_
              have BK222 := n1_
              have BK224 := n2_
              have HB := n3_
              clear n0_ n1_ n2_ n3_
              have n0_ := Aside0.mk (Kd.R_drew HO_4.out)
              have n1_ := Aside0.mk (blk_drew BK222.out)
              have n2_ := Aside0.mk (blk_drew BK224.out)
              have n3_ := Aside0.mk (below_drew1 HB.out)
              clear HO_4
              clear BK222
              clear BK224
              clear HB
              have HO_4 := n0_
              have BK222 := n1_
              have BK224 := n2_
              have HB := n3_
              clear n0_ n1_ n2_ n3_
              refine start_ (n := 17) (S := fun w' => w'.cell? ⟨gb224, 0, none⟩ = some (.int .i64 ((rd_T43 l0 x25_2).f0)) ∧ w'.cell? ⟨gb224, 1, none⟩ = some (.int .i64 ((rd_T43 l0 x25_2).f1)) ∧ w'.cell? ⟨gb224, 2, none⟩ = some (.int .i64 ((rd_T43 l0 x25_2).f2)) ∧ w'.cell? ⟨gb222, 0, none⟩ = some (.int .i64 ((rd_T43 l0 x19_1).f0)) ∧ w'.cell? ⟨gb222, 1, none⟩ = some (.int .i64 ((rd_T43 l0 x19_1).f1)) ∧ w'.cell? ⟨gb222, 2, none⟩ = some (.int .i64 ((rd_T43 l0 x19_1).f2))) (ds := []) #[false, false, false, false, false, false, false, false, false, false, false, false, false, false, false, false, false] (by kernel_rfl) rfl rfl ⟨(blk_cell BK224.out 0).trans rfl, (blk_cell BK224.out 1).trans rfl, (blk_cell BK224.out 2).trans rfl, (blk_cell BK222.out 0).trans rfl, (blk_cell BK222.out 1).trans rfl, (blk_cell BK222.out 2).trans rfl⟩ (fun hHeld => ?_); refine with_tabW corporaref10_Parents.tab11 corporaref10_Parents.bits11 (fun HT_ HW_ => ?_)
              generalize w17.drew = w18 at HO_4 BK222 BK224 HB hHeld ⊢
              refine take_ (i := 0) (N := some 30) (v := ?_) (a' := ?_) #[true, false, false, false, false, false, false, false, false, false, false, false, false, false, false, false, false] rfl rfl (take_ofW HT_.out HW_.out (by kernel_rfl)) (fun _ _ _ h => h) (Or.inl ⟨by rfl, ?_⟩) hHeld ?_ ?_
              rotate_left
              ·rintro w' ⟨s0, s1, s2, s3, s4, s5⟩
               go_simp
               with_reducible rfl
              rotate_left
              ·simp only [Act.put, List.setIfInBounds_toArray, List.set_cons_zero, List.set_cons_succ, i64_w, i32_w]
               rfl
              refine take_ (i := 1) (N := some 31) (v := ?_) (a' := ?_) #[true, true, false, false, false, false, false, false, false, false, false, false, false, false, false, false, false] rfl rfl (take_ofW HT_.out HW_.out (by kernel_rfl)) (fun _ _ _ h => h) (Or.inl ⟨by rfl, ?_⟩) hHeld ?_ ?_
              rotate_left
              ·rintro w' ⟨s0, s1, s2, s3, s4, s5⟩
               go_simp
               with_reducible rfl
              rotate_left
              ·simp only [Act.put, List.setIfInBounds_toArray, List.set_cons_zero, List.set_cons_succ, i64_w, i32_w]
               rfl
              refine one_ (i := 2) (N := some 32) #[true, true, true, false, false, false, false, false, false, false, false, false, false, false, false, false, false] rfl rfl (one_of HT_.out (by kernel_rfl)) (by decide) (fun K hK => ?_)
              refine goes_ Try.func22 (by kernel_rfl) rfl #[.agg #[.int .i64 ((rd_T43 l0 x25_2).f0), .int .i64 ((rd_T43 l0 x25_2).f1), .int .i64 ((rd_T43 l0 x25_2).f2)], .agg #[.int .i64 ((rd_T43 l0 x19_1).f0), .int .i64 ((rd_T43 l0 x19_1).f1), .int .i64 ((rd_T43 l0 x19_1).f2)]] (by rfl) rfl rfl (by (try simp only [List.map_toArray, List.map_cons, List.map_nil]); first | done | rfl | (simp only [List.length_drop, List.length_take]; rfl)) ?_
              with_reducible refine (corporaref10_Dominates.calls ((rd_T43 l0 x25_2).f0) ((rd_T43 l0 x25_2).f1) ((rd_T43 l0 x25_2).f2) ((rd_T43 l0 x19_1).f0) ((rd_T43 l0 x19_1).f1) ((rd_T43 l0 x19_1).f2) true _ A11.out).mono ?_
              rintro e w19 ⟨rfl, hb⟩
              refine ⟨_, rfl, ?_⟩
              have n0_ := Aside0.mk (Kd.R_below (by (with_reducible repeat (first | apply Kd.R_alloc | apply Kd.R_drewN | apply Kd.R_drew)); exact HO_4.out) hb)
              have n1_ := Aside0.mk (blk_below (g := gb222) (o := .cells #[.int .i64 ((rd_T43 l0 x19_1).f0), .int .i64 ((rd_T43 l0 x19_1).f1), .int .i64 ((rd_T43 l0 x19_1).f2)] 43 (0, 0)) (by (with_reducible repeat (first | refine blk_drewN ?_ _ | refine blk_drew ?_ | refine blk_alloc ?_ _)); exact BK222.out) hb)
              have n2_ := Aside0.mk (blk_below (g := gb224) (o := .cells #[.int .i64 ((rd_T43 l0 x25_2).f0), .int .i64 ((rd_T43 l0 x25_2).f1), .int .i64 ((rd_T43 l0 x25_2).f2)] 43 (0, 0)) (by (with_reducible repeat (first | refine blk_drewN ?_ _ | refine blk_drew ?_ | refine blk_alloc ?_ _)); exact BK224.out) hb)
              have n3_ := Aside0.mk (below_step (by repeat (first | (with_reducible first | exact HB.out | apply below_alloc | apply pw_below_drewN | apply below_drew1 | refine below_set ?_ GE222.out | refine below_set ?_ GE224.out) | exact HB.out)) hb)
              clear HO_4
              clear BK222
              clear BK224
              clear HB
              have HO_4 := n0_
              have BK222 := n1_
              have BK224 := n2_
              have HB := n3_
              clear n0_ n1_ n2_ n3_
              (try clear hb)
              (try clear hb2)
              (try clear hk)
              (try clear hi)
              refine hK.out _ _ ⟨(blk_cell BK224.out 0).trans rfl, (blk_cell BK224.out 1).trans rfl, (blk_cell BK224.out 2).trans rfl, (blk_cell BK222.out 0).trans rfl, (blk_cell BK222.out 1).trans rfl, (blk_cell BK222.out 2).trans rfl⟩ (fun hHeld => ?_)
              clear hK K
              refine norm_ (a' := ?_) ?_ ?_
              rotate_left
              ·show Act.put _ (some 32) _ = _
               simp only [Act.put, List.setIfInBounds_toArray, List.set_cons_zero, List.set_cons_succ, i64_w, i32_w]
               rfl
              refine pure_ (i := 3) (N := some 33) (v := ?_) (a' := ?_) #[true, true, true, true, false, false, false, false, false, false, false, false, false, false, false, false, false] rfl rfl (any_of HT_.out (by kernel_rfl)) (fun _ _ _ h => h) (Or.inl ⟨by rfl, ?_⟩) ?_ ?_
              rotate_left
              ·intro w'
               go_simp
               with_reducible rfl
              rotate_left
              ·simp only [Act.put, List.setIfInBounds_toArray, List.set_cons_zero, List.set_cons_succ, i64_w, i32_w]
               rfl
              refine pure_ (i := 4) (N := some 34) (v := ?_) (a' := ?_) #[true, true, true, true, true, false, false, false, false, false, false, false, false, false, false, false, false] rfl rfl (any_of HT_.out (by kernel_rfl)) (fun _ _ _ h => h) (Or.inl ⟨by rfl, ?_⟩) ?_ ?_
              rotate_left
              ·intro w'
               go_simp
               with_reducible rfl
              rotate_left
              ·simp only [Act.put, List.setIfInBounds_toArray, List.set_cons_zero, List.set_cons_succ, i64_w, i32_w]
               rfl
              refine pure_ (i := 5) (N := some 35) (v := ?_) (a' := ?_) #[true, true, true, true, true, true, false, false, false, false, false, false, false, false, false, false, false] rfl rfl (any_of HT_.out (by kernel_rfl)) (fun _ _ _ h => h) (Or.inl ⟨by rfl, ?_⟩) ?_ ?_
              rotate_left
              ·intro w'
               go_simp
               with_reducible rfl
              rotate_left
              ·simp only [Act.put, List.setIfInBounds_toArray, List.set_cons_zero, List.set_cons_succ, i64_w, i32_w]
               rfl
              refine pure_ (i := 6) (N := some 36) (v := ?_) (a' := ?_) #[true, true, true, true, true, true, true, false, false, false, false, false, false, false, false, false, false] rfl rfl (any_of HT_.out (by kernel_rfl)) (fun _ _ _ h => h) (Or.inl ⟨by rfl, ?_⟩) ?_ ?_
              rotate_left
              ·intro w'
               go_simp
               with_reducible rfl
              rotate_left
              ·simp only [Act.put, List.setIfInBounds_toArray, List.set_cons_zero, List.set_cons_succ, i64_w, i32_w]
               rfl
              refine pure_ (i := 7) (N := some 37) (v := undef) (a' := ?_) #[true, true, true, true, true, true, true, true, false, false, false, false, false, false, false, false, false] rfl rfl (any_of HT_.out (by kernel_rfl)) (fun _ _ _ h => h) (Or.inr ⟨by rfl, rfl⟩) ?_ ?_
              rotate_left
              ·simp only [Act.put, List.setIfInBounds_toArray, List.set_cons_zero, List.set_cons_succ, i64_w, i32_w]
               rfl
              refine pure_ (i := 8) (N := some 38) (v := undef) (a' := ?_) #[true, true, true, true, true, true, true, true, true, false, false, false, false, false, false, false, false] rfl rfl (any_of HT_.out (by kernel_rfl)) (fun _ _ _ h => h) (Or.inr ⟨by rfl, rfl⟩) ?_ ?_
              rotate_left
              ·simp only [Act.put, List.setIfInBounds_toArray, List.set_cons_zero, List.set_cons_succ, i64_w, i32_w]
               rfl
              refine pure_ (i := 9) (N := some 39) (v := undef) (a' := ?_) #[true, true, true, true, true, true, true, true, true, true, false, false, false, false, false, false, false] rfl rfl (any_of HT_.out (by kernel_rfl)) (fun _ _ _ h => h) (Or.inr ⟨by rfl, rfl⟩) ?_ ?_
              rotate_left
              ·simp only [Act.put, List.setIfInBounds_toArray, List.set_cons_zero, List.set_cons_succ, i64_w, i32_w]
               rfl
              refine pure_ (i := 10) (N := some 40) (v := undef) (a' := ?_) #[true, true, true, true, true, true, true, true, true, true, true, false, false, false, false, false, false] rfl rfl (any_of HT_.out (by kernel_rfl)) (fun _ _ _ h => h) (Or.inr ⟨by rfl, rfl⟩) ?_ ?_
              rotate_left
              ·simp only [Act.put, List.setIfInBounds_toArray, List.set_cons_zero, List.set_cons_succ, i64_w, i32_w]
               rfl
              refine pure_ (i := 11) (N := some 41) (v := undef) (a' := ?_) #[true, true, true, true, true, true, true, true, true, true, true, true, false, false, false, false, false] rfl rfl (any_of HT_.out (by kernel_rfl)) (fun _ _ _ h => h) (Or.inr ⟨by rfl, rfl⟩) ?_ ?_
              rotate_left
              ·simp only [Act.put, List.setIfInBounds_toArray, List.set_cons_zero, List.set_cons_succ, i64_w, i32_w]
               rfl
              refine pure_ (i := 12) (N := some 42) (v := undef) (a' := ?_) #[true, true, true, true, true, true, true, true, true, true, true, true, true, false, false, false, false] rfl rfl (any_of HT_.out (by kernel_rfl)) (fun _ _ _ h => h) (Or.inr ⟨by rfl, rfl⟩) ?_ ?_
              rotate_left
              ·simp only [Act.put, List.setIfInBounds_toArray, List.set_cons_zero, List.set_cons_succ, i64_w, i32_w]
               rfl
              refine pure_ (i := 13) (N := some 43) (v := undef) (a' := ?_) #[true, true, true, true, true, true, true, true, true, true, true, true, true, true, false, false, false] rfl rfl (any_of HT_.out (by kernel_rfl)) (fun _ _ _ h => h) (Or.inr ⟨by rfl, rfl⟩) ?_ ?_
              rotate_left
              ·simp only [Act.put, List.setIfInBounds_toArray, List.set_cons_zero, List.set_cons_succ, i64_w, i32_w]
               rfl
              refine pure_ (i := 14) (N := some 44) (v := undef) (a' := ?_) #[true, true, true, true, true, true, true, true, true, true, true, true, true, true, true, false, false] rfl rfl (any_of HT_.out (by kernel_rfl)) (fun _ _ _ h => h) (Or.inr ⟨by rfl, rfl⟩) ?_ ?_
              rotate_left
              ·simp only [Act.put, List.setIfInBounds_toArray, List.set_cons_zero, List.set_cons_succ, i64_w, i32_w]
               rfl
              refine pure_ (i := 15) (N := some 45) (v := ?_) (a' := ?_) #[true, true, true, true, true, true, true, true, true, true, true, true, true, true, true, true, false] rfl rfl (any_of HT_.out (by kernel_rfl)) (fun _ _ _ h => h) (Or.inl ⟨by rfl, ?_⟩) ?_ ?_
              rotate_left
              ·intro w'
               go_simp
               with_reducible rfl
              rotate_left
              ·simp only [Act.put, List.setIfInBounds_toArray, List.set_cons_zero, List.set_cons_succ, i64_w, i32_w]
               rfl
              refine pure_ (i := 16) (N := some 46) (v := ?_) (a' := ?_) #[true, true, true, true, true, true, true, true, true, true, true, true, true, true, true, true, true] rfl rfl (any_of HT_.out (by kernel_rfl)) (fun _ _ _ h => h) (Or.inl ⟨by rfl, ?_⟩) ?_ ?_
              rotate_left
              ·intro w'
               go_simp
               with_reducible rfl
              rotate_left
              ·simp only [Act.put, List.setIfInBounds_toArray, List.set_cons_zero, List.set_cons_succ, i64_w, i32_w]
               rfl
              refine done_ (done_of HT_.out (by kernel_rfl)) ?_
              try go_wp2
              go_roundg k2
              case measure => have := HK1.out; have := HK2.out; omega
              case rel => exact ⟨(x25_2), (wrap64 (x25_2 + 1)), (by first | rfl | (simp; done) | (simp [*]; done)), (by first | rfl | (simp; done) | (simp [*]; done)), H', ⟨by have := HK1.out; have := HK2.out; omega⟩, ⟨by (with_reducible repeat (first | apply Kd.R_alloc | apply Kd.R_drewN | apply Kd.R_drew)); exact HO_4.out⟩, ⟨by (with_reducible repeat (first | refine blk_drewN ?_ _ | refine blk_drew ?_ | refine blk_alloc ?_ _)); exact BK222.out⟩, ⟨by repeat (first | (with_reducible first | exact HB.out | apply below_alloc | apply pw_below_drewN | apply below_drew1 | refine below_set ?_ GE222.out | refine below_set ?_ GE224.out) | exact HB.out)⟩⟩
             ·rw [if_neg c13] at H
              have c13b0 : decide (x7_2 < 0) = false := decide_eq_false c13
              clear c13
              by_cases c20 : 0 ≤ x7_2
              ·rw [if_pos c20] at H
               have c20b0 : decide (0 ≤ x7_2) = true := decide_eq_true c20
               clear c20
               by_cases c21 : x7_2 < (l0.length : Int)
               ·rw [if_pos c21] at H
                have c21b0 : decide (x7_2 < (l0.length : Int)) = true := decide_eq_true c21
                clear c21
                by_cases c22 : ((rd_T43 l0 x25_2).f2) > ((rd_T43 l0 x7_2).f2)
                ·rw [if_pos c22] at H
                 have c22b0 : decide (((rd_T43 l0 x7_2).f2) < ((rd_T43 l0 x25_2).f2)) = true := decide_eq_true c22
                 clear c22
                 have H' := Aside0.mk H
                 clear H
                 have p223 : 0 ≤ (x25_2 : Int) := of_decide_eq_true (by first | (with_reducible assumption) | assumption)
                 have q223 : x25_2 < (l0.length : Int) := of_decide_eq_true (by first | (with_reducible assumption) | assumption)
                 obtain ⟨ad223, e223, hx223_0, hx223_1, hx223_2⟩ := at_T43 HR0.out x25_2 p223 q223
                 obtain rfl : ad221 = ad223 := (by injection e223)
                 replace hx223_0 := (HB.out.cell (World.block_lt_of_cell? w _ hx223_0)).trans hx223_0
                 replace hx223_1 := (HB.out.cell (World.block_lt_of_cell? w _ hx223_1)).trans hx223_1
                 replace hx223_2 := (HB.out.cell (World.block_lt_of_cell? w _ hx223_2)).trans hx223_2
                 replace p223 := eq_true p223
                 replace q223 := eq_true q223
                 try go_wp2_with (first | ((with_reducible refine gate_dst (N := 9) rfl ?_); refine box_event ?hg (N := 9) ?hd (cs := #[.int .i64 0, .int .i64 0, .int .i64 0]) (t := 43) ?hr ?_; (case hd => rfl); (case hg => rfl); (case hr => first | (go_simp; done) | (go_simp; rfl)); intro gb224 hg w23 hbox hb; have n0_ := Aside0.mk (Kd.R_below (by (with_reducible repeat (first | apply Kd.R_alloc | apply Kd.R_drewN | apply Kd.R_drew)); exact HO_4.out) hb); have n1_ := Aside0.mk (blk_below (g := gb222) (o := .cells #[.int .i64 ((rd_T43 l0 x19_1).f0), .int .i64 ((rd_T43 l0 x19_1).f1), .int .i64 ((rd_T43 l0 x19_1).f2)] 43 (0, 0)) (by (with_reducible repeat (first | refine blk_drewN ?_ _ | refine blk_drew ?_ | refine blk_alloc ?_ _)); exact BK222.out) hb); have n2_ := Aside0.mk (below_step (by repeat (first | (with_reducible first | exact HB.out | apply below_alloc | apply pw_below_drewN | apply below_drew1 | refine below_set ?_ GE222.out) | exact HB.out)) hb); have n3_ := Aside0.mk (hbox); have n4_ := Aside0.mk ((by rw [hg]; exact (below_size (by repeat (first | (with_reducible first | exact HB.out | apply below_alloc | apply pw_below_drewN | apply below_drew1 | refine below_set ?_ GE222.out) | exact HB.out))) : w.heap.size ≤ gb224)); have n5_ := Aside0.mk ((by rw [hg]; exact (below_size (by repeat (first | (with_reducible first | exact HB.out | apply below_alloc | apply pw_below_drewN | apply below_drew1 | refine below_set ?_ GE222.out) | exact HB.out))) : w.heap.size ≤ gb224)); have n6_ := Aside0.mk ((by rw [hg]; exact Nat.ne_of_lt (blk_lt (g := gb222) (o := .cells #[.int .i64 ((rd_T43 l0 x19_1).f0), .int .i64 ((rd_T43 l0 x19_1).f1), .int .i64 ((rd_T43 l0 x19_1).f2)] 43 (0, 0)) (by (with_reducible repeat (first | refine blk_drewN ?_ _ | refine blk_drew ?_ | refine blk_alloc ?_ _)); exact BK222.out)) : gb222 ≠ gb224)); have n7_ := Aside0.mk ((by rw [hg]; exact Nat.ne_of_gt (blk_lt (g := gb222) (o := .cells #[.int .i64 ((rd_T43 l0 x19_1).f0), .int .i64 ((rd_T43 l0 x19_1).f1), .int .i64 ((rd_T43 l0 x19_1).f2)] 43 (0, 0)) (by (with_reducible repeat (first | refine blk_drewN ?_ _ | refine blk_drew ?_ | refine blk_alloc ?_ _)); exact BK222.out)) : gb224 ≠ gb222)); clear HO_4; clear BK222; clear HB; have HO_4 := n0_; have BK222 := n1_; have HB := n2_; have BK224 := n3_; have GW224 := n4_; have GE224 := n5_; have NB222_224 := n6_; have NB224_222 := n7_; clear n0_ n1_ n2_ n3_ n4_ n5_ n6_ n7_; clear hb hbox hg; have hnb24 := NB224_222.out; have hnc24 := NB222_224.out; have hcz25_0 : w23.cell? ⟨gb224, 0, none⟩ = some (.int .i64 0) := (blk_cell BK224.out 0).trans rfl; have hcz25_1 : w23.cell? ⟨gb224, 1, none⟩ = some (.int .i64 0) := (blk_cell BK224.out 1).trans rfl; have hcz25_2 : w23.cell? ⟨gb224, 2, none⟩ = some (.int .i64 0) := (blk_cell BK224.out 2).trans rfl; have hfz25_0 := blk_frozen BK224.out 0; have hfz25_1 := blk_frozen BK224.out 1; have hfz25_2 := blk_frozen BK224.out 2))
                 have n0_ : Aside0 (Kd.R (Kd.int .i64) 3 (((w23.setCell ⟨gb224, 0, none⟩ (.int .i64 ((rd_T43 l0 x25_2).f0))).setCell ⟨gb224, 1, none⟩ (.int .i64 ((rd_T43 l0 x25_2).f1))).setCell ⟨gb224, 2, none⟩ (.int .i64 ((rd_T43 l0 x25_2).f2))) w.heap.size (fun _ => True) u4 x4_1) := ⟨by (with_reducible repeat (first | apply Kd.R_alloc | apply Kd.R_drewN | apply Kd.R_drew)); exact Kd.R_mono (Kd.R_far (p := ⟨gb224, 2, none⟩) (Kd.R_far (p := ⟨gb224, 1, none⟩) (Kd.R_far (p := ⟨gb224, 0, none⟩) (Kd.R_types HO_4.out BK224.out (by decide)) (fun _ hk => hk.2) (.int .i64 ((rd_T43 l0 x25_2).f0))) (fun _ hk => hk.2) (.int .i64 ((rd_T43 l0 x25_2).f1))) (fun _ hk => hk.2) (.int .i64 ((rd_T43 l0 x25_2).f2))) (fun _ hk => trivial)⟩
                 have n1_ : Aside0 ((((w23.setCell ⟨gb224, 0, none⟩ (.int .i64 ((rd_T43 l0 x25_2).f0))).setCell ⟨gb224, 1, none⟩ (.int .i64 ((rd_T43 l0 x25_2).f1))).setCell ⟨gb224, 2, none⟩ (.int .i64 ((rd_T43 l0 x25_2).f2))).heap[gb222]? = some (.cells #[.int .i64 ((rd_T43 l0 x19_1).f0), .int .i64 ((rd_T43 l0 x19_1).f1), .int .i64 ((rd_T43 l0 x19_1).f2)] 43 (0, 0))) := ⟨by (with_reducible repeat (first | refine blk_drewN ?_ _ | refine blk_drew ?_ | refine blk_alloc ?_ _)); refine blk_far ?_ NB222_224.out _; (with_reducible repeat (first | refine blk_drewN ?_ _ | refine blk_drew ?_ | refine blk_alloc ?_ _)); refine blk_far ?_ NB222_224.out _; (with_reducible repeat (first | refine blk_drewN ?_ _ | refine blk_drew ?_ | refine blk_alloc ?_ _)); refine blk_far ?_ NB222_224.out _; (with_reducible repeat (first | refine blk_drewN ?_ _ | refine blk_drew ?_ | refine blk_alloc ?_ _)); exact BK222.out⟩
                 have n2_ : Aside0 ((((w23.setCell ⟨gb224, 0, none⟩ (.int .i64 ((rd_T43 l0 x25_2).f0))).setCell ⟨gb224, 1, none⟩ (.int .i64 ((rd_T43 l0 x25_2).f1))).setCell ⟨gb224, 2, none⟩ (.int .i64 ((rd_T43 l0 x25_2).f2))).heap[gb224]? = some (.cells #[.int .i64 ((rd_T43 l0 x25_2).f0), .int .i64 ((rd_T43 l0 x25_2).f1), .int .i64 ((rd_T43 l0 x25_2).f2)] 43 (0, 0))) := ⟨by (with_reducible repeat (first | refine blk_drewN ?_ _ | refine blk_drew ?_ | refine blk_alloc ?_ _)); refine blk_put (cs := #[.int .i64 ((rd_T43 l0 x25_2).f0), .int .i64 ((rd_T43 l0 x25_2).f1), .int .i64 0]) ?_ 2 _ rfl; (with_reducible repeat (first | refine blk_drewN ?_ _ | refine blk_drew ?_ | refine blk_alloc ?_ _)); refine blk_put (cs := #[.int .i64 ((rd_T43 l0 x25_2).f0), .int .i64 0, .int .i64 0]) ?_ 1 _ rfl; (with_reducible repeat (first | refine blk_drewN ?_ _ | refine blk_drew ?_ | refine blk_alloc ?_ _)); refine blk_put (cs := #[.int .i64 0, .int .i64 0, .int .i64 0]) ?_ 0 _ rfl; (with_reducible repeat (first | refine blk_drewN ?_ _ | refine blk_drew ?_ | refine blk_alloc ?_ _)); exact BK224.out⟩
                 have n3_ : Aside0 (Below w.heap.size w (((w23.setCell ⟨gb224, 0, none⟩ (.int .i64 ((rd_T43 l0 x25_2).f0))).setCell ⟨gb224, 1, none⟩ (.int .i64 ((rd_T43 l0 x25_2).f1))).setCell ⟨gb224, 2, none⟩ (.int .i64 ((rd_T43 l0 x25_2).f2)))) := ⟨by repeat (first | (with_reducible first | exact HB.out | apply below_alloc | apply pw_below_drewN | apply below_drew1 | refine below_set ?_ GE222.out | refine below_set ?_ GE224.out) | exact HB.out)⟩
                 (try clear HO_4)
                 (try clear BK222)
                 (try clear BK224)
                 (try clear HB)
                 generalize (((w23.setCell ⟨gb224, 0, none⟩ (.int .i64 ((rd_T43 l0 x25_2).f0))).setCell ⟨gb224, 1, none⟩ (.int .i64 ((rd_T43 l0 x25_2).f1))).setCell ⟨gb224, 2, none⟩ (.int .i64 ((rd_T43 l0 x25_2).f2))) = w26 at n0_ n1_ n2_ n3_ ⊢
                 have HO_4 := n0_
                 have BK222 := n1_
                 have BK224 := n2_
                 have HB := n3_
                 clear n0_ n1_ n2_ n3_
                 have n0_ := Aside0.mk (Kd.R_drew HO_4.out)
                 have n1_ := Aside0.mk (blk_drew BK222.out)
                 have n2_ := Aside0.mk (blk_drew BK224.out)
                 have n3_ := Aside0.mk (below_drew1 HB.out)
                 clear HO_4
                 clear BK222
                 clear BK224
                 clear HB
                 have HO_4 := n0_
                 have BK222 := n1_
                 have BK224 := n2_
                 have HB := n3_
                 clear n0_ n1_ n2_ n3_
                 have p226 : 0 ≤ (x7_2 : Int) := of_decide_eq_true (by first | (with_reducible assumption) | assumption)
                 have q226 : x7_2 < (l0.length : Int) := of_decide_eq_true (by first | (with_reducible assumption) | assumption)
                 obtain ⟨ad226, e226, hx226_0, hx226_1, hx226_2⟩ := at_T43 HR0.out x7_2 p226 q226
                 have hw226_2 := hx226_2
                 have hw226_1 := hx226_1
                 have hw226_0 := hx226_0
                 obtain rfl : ad221 = ad226 := (by injection e226)
                 replace hx226_0 := (HB.out.cell (World.block_lt_of_cell? w _ hx226_0)).trans hx226_0
                 replace hx226_1 := (HB.out.cell (World.block_lt_of_cell? w _ hx226_1)).trans hx226_1
                 replace hx226_2 := (HB.out.cell (World.block_lt_of_cell? w _ hx226_2)).trans hx226_2
                 replace p226 := eq_true p226
                 replace q226 := eq_true q226
                 refine start_ (n := 17) (S := fun w' => w'.cell? ⟨gb224, 0, none⟩ = some (.int .i64 ((rd_T43 l0 x25_2).f0)) ∧ w'.cell? ⟨gb224, 1, none⟩ = some (.int .i64 ((rd_T43 l0 x25_2).f1)) ∧ w'.cell? ⟨gb224, 2, none⟩ = some (.int .i64 ((rd_T43 l0 x25_2).f2)) ∧ w'.cell? ⟨gb222, 0, none⟩ = some (.int .i64 ((rd_T43 l0 x19_1).f0)) ∧ w'.cell? ⟨gb222, 1, none⟩ = some (.int .i64 ((rd_T43 l0 x19_1).f1)) ∧ w'.cell? ⟨gb222, 2, none⟩ = some (.int .i64 ((rd_T43 l0 x19_1).f2)) ∧ w'.cell? (ad221.add ((x7_2).toNat * 3)) = some (.int .i64 ((rd_T43 l0 x7_2).f0)) ∧ w'.cell? ⟨(ad221.add ((x7_2).toNat * 3)).block, (ad221.add ((x7_2).toNat * 3)).off + 1, none⟩ = some (.int .i64 ((rd_T43 l0 x7_2).f1)) ∧ w'.cell? ⟨(ad221.add ((x7_2).toNat * 3)).block, (ad221.add ((x7_2).toNat * 3)).off + 2, none⟩ = some (.int .i64 ((rd_T43 l0 x7_2).f2))) (ds := []) #[false, false, false, false, false, false, false, false, false, false, false, false, false, false, false, false, false] (by kernel_rfl) rfl rfl ⟨(blk_cell BK224.out 0).trans rfl, (blk_cell BK224.out 1).trans rfl, (blk_cell BK224.out 2).trans rfl, (blk_cell BK222.out 0).trans rfl, (blk_cell BK222.out 1).trans rfl, (blk_cell BK222.out 2).trans rfl, ((HB.out.cell (World.block_lt_of_cell? w _ hw226_0)).trans hw226_0), ((HB.out.cell (World.block_lt_of_cell? w _ hw226_1)).trans hw226_1), ((HB.out.cell (World.block_lt_of_cell? w _ hw226_2)).trans hw226_2)⟩ (fun hHeld => ?_); refine with_tabW corporaref10_Parents.tab11 corporaref10_Parents.bits11 (fun HT_ HW_ => ?_)
                 generalize w26.drew = w27 at HO_4 BK222 BK224 HB hx226_0 hx226_1 hx226_2 hHeld ⊢
                 refine take_ (i := 0) (N := some 30) (v := ?_) (a' := ?_) #[true, false, false, false, false, false, false, false, false, false, false, false, false, false, false, false, false] rfl rfl (take_ofW HT_.out HW_.out (by kernel_rfl)) (fun _ _ _ h => h) (Or.inl ⟨by rfl, ?_⟩) hHeld ?_ ?_
                 rotate_left
                 ·rintro w' ⟨s0, s1, s2, s3, s4, s5, s6, s7, s8⟩
                  go_simp
                  with_reducible rfl
                 rotate_left
                 ·simp only [Act.put, List.setIfInBounds_toArray, List.set_cons_zero, List.set_cons_succ, i64_w, i32_w]
                  rfl
                 refine take_ (i := 1) (N := some 31) (v := ?_) (a' := ?_) #[true, true, false, false, false, false, false, false, false, false, false, false, false, false, false, false, false] rfl rfl (take_ofW HT_.out HW_.out (by kernel_rfl)) (fun _ _ _ h => h) (Or.inl ⟨by rfl, ?_⟩) hHeld ?_ ?_
                 rotate_left
                 ·rintro w' ⟨s0, s1, s2, s3, s4, s5, s6, s7, s8⟩
                  go_simp
                  with_reducible rfl
                 rotate_left
                 ·simp only [Act.put, List.setIfInBounds_toArray, List.set_cons_zero, List.set_cons_succ, i64_w, i32_w]
                  rfl
                 refine one_ (i := 2) (N := some 32) #[true, true, true, false, false, false, false, false, false, false, false, false, false, false, false, false, false] rfl rfl (one_of HT_.out (by kernel_rfl)) (by decide) (fun K hK => ?_)
                 refine goes_ Try.func22 (by kernel_rfl) rfl #[.agg #[.int .i64 ((rd_T43 l0 x25_2).f0), .int .i64 ((rd_T43 l0 x25_2).f1), .int .i64 ((rd_T43 l0 x25_2).f2)], .agg #[.int .i64 ((rd_T43 l0 x19_1).f0), .int .i64 ((rd_T43 l0 x19_1).f1), .int .i64 ((rd_T43 l0 x19_1).f2)]] (by rfl) rfl rfl (by (try simp only [List.map_toArray, List.map_cons, List.map_nil]); first | done | rfl | (simp only [List.length_drop, List.length_take]; rfl)) ?_
                 with_reducible refine (corporaref10_Dominates.calls ((rd_T43 l0 x25_2).f0) ((rd_T43 l0 x25_2).f1) ((rd_T43 l0 x25_2).f2) ((rd_T43 l0 x19_1).f0) ((rd_T43 l0 x19_1).f1) ((rd_T43 l0 x19_1).f2) true _ A11.out).mono ?_
                 rintro e w28 ⟨rfl, hb⟩
                 refine ⟨_, rfl, ?_⟩
                 have n0_ := Aside0.mk (Kd.R_below (by (with_reducible repeat (first | apply Kd.R_alloc | apply Kd.R_drewN | apply Kd.R_drew)); exact HO_4.out) hb)
                 have n1_ := Aside0.mk (blk_below (g := gb222) (o := .cells #[.int .i64 ((rd_T43 l0 x19_1).f0), .int .i64 ((rd_T43 l0 x19_1).f1), .int .i64 ((rd_T43 l0 x19_1).f2)] 43 (0, 0)) (by (with_reducible repeat (first | refine blk_drewN ?_ _ | refine blk_drew ?_ | refine blk_alloc ?_ _)); exact BK222.out) hb)
                 have n2_ := Aside0.mk (blk_below (g := gb224) (o := .cells #[.int .i64 ((rd_T43 l0 x25_2).f0), .int .i64 ((rd_T43 l0 x25_2).f1), .int .i64 ((rd_T43 l0 x25_2).f2)] 43 (0, 0)) (by (with_reducible repeat (first | refine blk_drewN ?_ _ | refine blk_drew ?_ | refine blk_alloc ?_ _)); exact BK224.out) hb)
                 have n3_ := Aside0.mk (below_step (by repeat (first | (with_reducible first | exact HB.out | apply below_alloc | apply pw_below_drewN | apply below_drew1 | refine below_set ?_ GE222.out | refine below_set ?_ GE224.out) | exact HB.out)) hb)
                 clear HO_4
                 clear BK222
                 clear BK224
                 clear HB
                 have HO_4 := n0_
                 have BK222 := n1_
                 have BK224 := n2_
                 have HB := n3_
                 clear n0_ n1_ n2_ n3_
                 (try clear hb)
                 (try clear hb2)
                 (try clear hk)
                 (try clear hi)
                 refine hK.out _ _ ⟨(blk_cell BK224.out 0).trans rfl, (blk_cell BK224.out 1).trans rfl, (blk_cell BK224.out 2).trans rfl, (blk_cell BK222.out 0).trans rfl, (blk_cell BK222.out 1).trans rfl, (blk_cell BK222.out 2).trans rfl, ((HB.out.cell (World.block_lt_of_cell? w _ hw226_0)).trans hw226_0), ((HB.out.cell (World.block_lt_of_cell? w _ hw226_1)).trans hw226_1), ((HB.out.cell (World.block_lt_of_cell? w _ hw226_2)).trans hw226_2)⟩ (fun hHeld => ?_)
                 clear hK K
                 refine norm_ (a' := ?_) ?_ ?_
                 rotate_left
                 ·show Act.put _ (some 32) _ = _
                  simp only [Act.put, List.setIfInBounds_toArray, List.set_cons_zero, List.set_cons_succ, i64_w, i32_w]
                  rfl
                 refine pure_ (i := 3) (N := some 33) (v := ?_) (a' := ?_) #[true, true, true, true, false, false, false, false, false, false, false, false, false, false, false, false, false] rfl rfl (any_of HT_.out (by kernel_rfl)) (fun _ _ _ h => h) (Or.inl ⟨by rfl, ?_⟩) ?_ ?_
                 rotate_left
                 ·intro w'
                  go_simp
                  with_reducible rfl
                 rotate_left
                 ·simp only [Act.put, List.setIfInBounds_toArray, List.set_cons_zero, List.set_cons_succ, i64_w, i32_w]
                  rfl
                 refine pure_ (i := 4) (N := some 34) (v := ?_) (a' := ?_) #[true, true, true, true, true, false, false, false, false, false, false, false, false, false, false, false, false] rfl rfl (any_of HT_.out (by kernel_rfl)) (fun _ _ _ h => h) (Or.inl ⟨by rfl, ?_⟩) ?_ ?_
                 rotate_left
                 ·intro w'
                  go_simp
                  with_reducible rfl
                 rotate_left
                 ·simp only [Act.put, List.setIfInBounds_toArray, List.set_cons_zero, List.set_cons_succ, i64_w, i32_w]
                  rfl
                 refine pure_ (i := 5) (N := some 35) (v := ?_) (a' := ?_) #[true, true, true, true, true, true, false, false, false, false, false, false, false, false, false, false, false] rfl rfl (any_of HT_.out (by kernel_rfl)) (fun _ _ _ h => h) (Or.inl ⟨by rfl, ?_⟩) ?_ ?_
                 rotate_left
                 ·intro w'
                  go_simp
                  with_reducible rfl
                 rotate_left
                 ·simp only [Act.put, List.setIfInBounds_toArray, List.set_cons_zero, List.set_cons_succ, i64_w, i32_w]
                  rfl
                 refine pure_ (i := 6) (N := some 36) (v := ?_) (a' := ?_) #[true, true, true, true, true, true, true, false, false, false, false, false, false, false, false, false, false] rfl rfl (any_of HT_.out (by kernel_rfl)) (fun _ _ _ h => h) (Or.inl ⟨by rfl, ?_⟩) ?_ ?_
                 rotate_left
                 ·intro w'
                  go_simp
                  with_reducible rfl
                 rotate_left
                 ·simp only [Act.put, List.setIfInBounds_toArray, List.set_cons_zero, List.set_cons_succ, i64_w, i32_w]
                  rfl
                 refine pure_ (i := 7) (N := some 37) (v := ?_) (a' := ?_) #[true, true, true, true, true, true, true, true, false, false, false, false, false, false, false, false, false] rfl rfl (any_of HT_.out (by kernel_rfl)) (fun _ _ _ h => h) (Or.inl ⟨by rfl, ?_⟩) ?_ ?_
                 rotate_left
                 ·intro w'
                  go_simp
                  with_reducible rfl
                 rotate_left
                 ·simp only [Act.put, List.setIfInBounds_toArray, List.set_cons_zero, List.set_cons_succ, i64_w, i32_w]
                  rfl
                 refine pure_ (i := 9) (N := some 39) (v := ?_) (a' := ?_) #[true, true, true, true, true, true, true, true, false, true, false, false, false, false, false, false, false] rfl rfl (any_of HT_.out (by kernel_rfl)) (fun _ _ _ h => h) (Or.inl ⟨by rfl, ?_⟩) ?_ ?_
                 rotate_left
                 ·intro w'
                  go_simp
                  with_reducible rfl
                 rotate_left
                 ·simp only [Act.put, List.setIfInBounds_toArray, List.set_cons_zero, List.set_cons_succ, i64_w, i32_w]
                  rfl
                 refine pure_ (i := 10) (N := some 40) (v := ?_) (a' := ?_) #[true, true, true, true, true, true, true, true, false, true, true, false, false, false, false, false, false] rfl rfl (any_of HT_.out (by kernel_rfl)) (fun _ _ _ h => h) (Or.inl ⟨by rfl, ?_⟩) ?_ ?_
                 rotate_left
                 ·intro w'
                  go_simp
                  with_reducible rfl
                 rotate_left
                 ·simp only [Act.put, List.setIfInBounds_toArray, List.set_cons_zero, List.set_cons_succ, i64_w, i32_w]
                  rfl
                 refine pure_ (i := 11) (N := some 41) (v := ?_) (a' := ?_) #[true, true, true, true, true, true, true, true, false, true, true, true, false, false, false, false, false] rfl rfl (any_of HT_.out (by kernel_rfl)) (fun _ _ _ h => h) (Or.inl ⟨by rfl, ?_⟩) ?_ ?_
                 rotate_left
                 ·intro w'
                  go_simp
                  with_reducible rfl
                 rotate_left
                 ·simp only [Act.put, List.setIfInBounds_toArray, List.set_cons_zero, List.set_cons_succ, i64_w, i32_w]
                  rfl
                 refine pure_ (i := 12) (N := some 42) (v := ?_) (a' := ?_) #[true, true, true, true, true, true, true, true, false, true, true, true, true, false, false, false, false] rfl rfl (any_of HT_.out (by kernel_rfl)) (fun _ _ _ h => h) (Or.inl ⟨by rfl, ?_⟩) ?_ ?_
                 rotate_left
                 ·intro w'
                  go_simp
                  with_reducible rfl
                 rotate_left
                 ·simp only [Act.put, List.setIfInBounds_toArray, List.set_cons_zero, List.set_cons_succ, i64_w, i32_w]
                  rfl
                 refine take_ (i := 8) (N := some 38) (v := ?_) (a' := ?_) #[true, true, true, true, true, true, true, true, true, true, true, true, true, false, false, false, false] rfl rfl (take_ofW HT_.out HW_.out (by kernel_rfl)) (fun _ _ _ h => h) (Or.inl ⟨by rfl, ?_⟩) hHeld ?_ ?_
                 rotate_left
                 ·rintro w' ⟨s0, s1, s2, s3, s4, s5, s6, s7, s8⟩
                  go_simp
                  with_reducible rfl
                 rotate_left
                 ·simp only [Act.put, List.setIfInBounds_toArray, List.set_cons_zero, List.set_cons_succ, i64_w, i32_w]
                  rfl
                 refine take_ (i := 13) (N := some 43) (v := ?_) (a' := ?_) #[true, true, true, true, true, true, true, true, true, true, true, true, true, true, false, false, false] rfl rfl (take_ofW HT_.out HW_.out (by kernel_rfl)) (fun _ _ _ h => h) (Or.inl ⟨by rfl, ?_⟩) hHeld ?_ ?_
                 rotate_left
                 ·rintro w' ⟨s0, s1, s2, s3, s4, s5, s6, s7, s8⟩
                  go_simp
                  with_reducible rfl
                 rotate_left
                 ·simp only [Act.put, List.setIfInBounds_toArray, List.set_cons_zero, List.set_cons_succ, i64_w, i32_w]
                  rfl
                 refine pure_ (i := 14) (N := some 44) (v := ?_) (a' := ?_) #[true, true, true, true, true, true, true, true, true, true, true, true, true, true, true, false, false] rfl rfl (any_of HT_.out (by kernel_rfl)) (fun _ _ _ h => h) (Or.inl ⟨by rfl, ?_⟩) ?_ ?_
                 rotate_left
                 ·intro w'
                  go_simp
                  with_reducible rfl
                 rotate_left
                 ·simp only [Act.put, List.setIfInBounds_toArray, List.set_cons_zero, List.set_cons_succ, i64_w, i32_w]
                  rfl
                 refine pure_ (i := 15) (N := some 45) (v := ?_) (a' := ?_) #[true, true, true, true, true, true, true, true, true, true, true, true, true, true, true, true, false] rfl rfl (any_of HT_.out (by kernel_rfl)) (fun _ _ _ h => h) (Or.inl ⟨by rfl, ?_⟩) ?_ ?_
                 rotate_left
                 ·intro w'
                  go_simp
                  with_reducible rfl
                 rotate_left
                 ·simp only [Act.put, List.setIfInBounds_toArray, List.set_cons_zero, List.set_cons_succ, i64_w, i32_w]
                  rfl
                 refine pure_ (i := 16) (N := some 46) (v := ?_) (a' := ?_) #[true, true, true, true, true, true, true, true, true, true, true, true, true, true, true, true, true] rfl rfl (any_of HT_.out (by kernel_rfl)) (fun _ _ _ h => h) (Or.inl ⟨by rfl, ?_⟩) ?_ ?_
                 rotate_left
                 ·intro w'
                  go_simp
                  with_reducible rfl
                 rotate_left
                 ·simp only [Act.put, List.setIfInBounds_toArray, List.set_cons_zero, List.set_cons_succ, i64_w, i32_w]
                  rfl
                 refine done_ (done_of HT_.out (by kernel_rfl)) ?_
                 try go_wp2
                 go_roundg k2
                 case measure => have := HK1.out; have := HK2.out; omega
                 case rel => exact ⟨(x25_2), (wrap64 (x25_2 + 1)), (by first | rfl | (simp; done) | (simp [*]; done)), (by first | rfl | (simp; done) | (simp [*]; done)), H', ⟨by have := HK1.out; have := HK2.out; omega⟩, ⟨by (with_reducible repeat (first | apply Kd.R_alloc | apply Kd.R_drewN | apply Kd.R_drew)); exact HO_4.out⟩, ⟨by (with_reducible repeat (first | refine blk_drewN ?_ _ | refine blk_drew ?_ | refine blk_alloc ?_ _)); exact BK222.out⟩, ⟨by repeat (first | (with_reducible first | exact HB.out | apply below_alloc | apply pw_below_drewN | apply below_drew1 | refine below_set ?_ GE222.out | refine below_set ?_ GE224.out) | exact HB.out)⟩⟩
                ·rw [if_neg c22] at H
                 have c22b0 : decide (((rd_T43 l0 x7_2).f2) < ((rd_T43 l0 x25_2).f2)) = false := decide_eq_false c22
                 clear c22
                 have H' := Aside0.mk H
                 clear H
                 have p223 : 0 ≤ (x25_2 : Int) := of_decide_eq_true (by first | (with_reducible assumption) | assumption)
                 have q223 : x25_2 < (l0.length : Int) := of_decide_eq_true (by first | (with_reducible assumption) | assumption)
                 obtain ⟨ad223, e223, hx223_0, hx223_1, hx223_2⟩ := at_T43 HR0.out x25_2 p223 q223
                 obtain rfl : ad221 = ad223 := (by injection e223)
                 replace hx223_0 := (HB.out.cell (World.block_lt_of_cell? w _ hx223_0)).trans hx223_0
                 replace hx223_1 := (HB.out.cell (World.block_lt_of_cell? w _ hx223_1)).trans hx223_1
                 replace hx223_2 := (HB.out.cell (World.block_lt_of_cell? w _ hx223_2)).trans hx223_2
                 replace p223 := eq_true p223
                 replace q223 := eq_true q223
                 try go_wp2_with (first | ((with_reducible refine gate_dst (N := 9) rfl ?_); refine box_event ?hg (N := 9) ?hd (cs := #[.int .i64 0, .int .i64 0, .int .i64 0]) (t := 43) ?hr ?_; (case hd => rfl); (case hg => rfl); (case hr => first | (go_simp; done) | (go_simp; rfl)); intro gb224 hg w29 hbox hb; have n0_ := Aside0.mk (Kd.R_below (by (with_reducible repeat (first | apply Kd.R_alloc | apply Kd.R_drewN | apply Kd.R_drew)); exact HO_4.out) hb); have n1_ := Aside0.mk (blk_below (g := gb222) (o := .cells #[.int .i64 ((rd_T43 l0 x19_1).f0), .int .i64 ((rd_T43 l0 x19_1).f1), .int .i64 ((rd_T43 l0 x19_1).f2)] 43 (0, 0)) (by (with_reducible repeat (first | refine blk_drewN ?_ _ | refine blk_drew ?_ | refine blk_alloc ?_ _)); exact BK222.out) hb); have n2_ := Aside0.mk (below_step (by repeat (first | (with_reducible first | exact HB.out | apply below_alloc | apply pw_below_drewN | apply below_drew1 | refine below_set ?_ GE222.out) | exact HB.out)) hb); have n3_ := Aside0.mk (hbox); have n4_ := Aside0.mk ((by rw [hg]; exact (below_size (by repeat (first | (with_reducible first | exact HB.out | apply below_alloc | apply pw_below_drewN | apply below_drew1 | refine below_set ?_ GE222.out) | exact HB.out))) : w.heap.size ≤ gb224)); have n5_ := Aside0.mk ((by rw [hg]; exact (below_size (by repeat (first | (with_reducible first | exact HB.out | apply below_alloc | apply pw_below_drewN | apply below_drew1 | refine below_set ?_ GE222.out) | exact HB.out))) : w.heap.size ≤ gb224)); have n6_ := Aside0.mk ((by rw [hg]; exact Nat.ne_of_lt (blk_lt (g := gb222) (o := .cells #[.int .i64 ((rd_T43 l0 x19_1).f0), .int .i64 ((rd_T43 l0 x19_1).f1), .int .i64 ((rd_T43 l0 x19_1).f2)] 43 (0, 0)) (by (with_reducible repeat (first | refine blk_drewN ?_ _ | refine blk_drew ?_ | refine blk_alloc ?_ _)); exact BK222.out)) : gb222 ≠ gb224)); have n7_ := Aside0.mk ((by rw [hg]; exact Nat.ne_of_gt (blk_lt (g := gb222) (o := .cells #[.int .i64 ((rd_T43 l0 x19_1).f0), .int .i64 ((rd_T43 l0 x19_1).f1), .int .i64 ((rd_T43 l0 x19_1).f2)] 43 (0, 0)) (by (with_reducible repeat (first | refine blk_drewN ?_ _ | refine blk_drew ?_ | refine blk_alloc ?_ _)); exact BK222.out)) : gb224 ≠ gb222)); clear HO_4; clear BK222; clear HB; have HO_4 := n0_; have BK222 := n1_; have HB := n2_; have BK224 := n3_; have GW224 := n4_; have GE224 := n5_; have NB222_224 := n6_; have NB224_222 := n7_; clear n0_ n1_ n2_ n3_ n4_ n5_ n6_ n7_; clear hb hbox hg; have hnb30 := NB224_222.out; have hnc30 := NB222_224.out; have hcz31_0 : w29.cell? ⟨gb224, 0, none⟩ = some (.int .i64 0) := (blk_cell BK224.out 0).trans rfl; have hcz31_1 : w29.cell? ⟨gb224, 1, none⟩ = some (.int .i64 0) := (blk_cell BK224.out 1).trans rfl; have hcz31_2 : w29.cell? ⟨gb224, 2, none⟩ = some (.int .i64 0) := (blk_cell BK224.out 2).trans rfl; have hfz31_0 := blk_frozen BK224.out 0; have hfz31_1 := blk_frozen BK224.out 1; have hfz31_2 := blk_frozen BK224.out 2))
                 have n0_ : Aside0 (Kd.R (Kd.int .i64) 3 (((w29.setCell ⟨gb224, 0, none⟩ (.int .i64 ((rd_T43 l0 x25_2).f0))).setCell ⟨gb224, 1, none⟩ (.int .i64 ((rd_T43 l0 x25_2).f1))).setCell ⟨gb224, 2, none⟩ (.int .i64 ((rd_T43 l0 x25_2).f2))) w.heap.size (fun _ => True) u4 x4_1) := ⟨by (with_reducible repeat (first | apply Kd.R_alloc | apply Kd.R_drewN | apply Kd.R_drew)); exact Kd.R_mono (Kd.R_far (p := ⟨gb224, 2, none⟩) (Kd.R_far (p := ⟨gb224, 1, none⟩) (Kd.R_far (p := ⟨gb224, 0, none⟩) (Kd.R_types HO_4.out BK224.out (by decide)) (fun _ hk => hk.2) (.int .i64 ((rd_T43 l0 x25_2).f0))) (fun _ hk => hk.2) (.int .i64 ((rd_T43 l0 x25_2).f1))) (fun _ hk => hk.2) (.int .i64 ((rd_T43 l0 x25_2).f2))) (fun _ hk => trivial)⟩
                 have n1_ : Aside0 ((((w29.setCell ⟨gb224, 0, none⟩ (.int .i64 ((rd_T43 l0 x25_2).f0))).setCell ⟨gb224, 1, none⟩ (.int .i64 ((rd_T43 l0 x25_2).f1))).setCell ⟨gb224, 2, none⟩ (.int .i64 ((rd_T43 l0 x25_2).f2))).heap[gb222]? = some (.cells #[.int .i64 ((rd_T43 l0 x19_1).f0), .int .i64 ((rd_T43 l0 x19_1).f1), .int .i64 ((rd_T43 l0 x19_1).f2)] 43 (0, 0))) := ⟨by (with_reducible repeat (first | refine blk_drewN ?_ _ | refine blk_drew ?_ | refine blk_alloc ?_ _)); refine blk_far ?_ NB222_224.out _; (with_reducible repeat (first | refine blk_drewN ?_ _ | refine blk_drew ?_ | refine blk_alloc ?_ _)); refine blk_far ?_ NB222_224.out _; (with_reducible repeat (first | refine blk_drewN ?_ _ | refine blk_drew ?_ | refine blk_alloc ?_ _)); refine blk_far ?_ NB222_224.out _; (with_reducible repeat (first | refine blk_drewN ?_ _ | refine blk_drew ?_ | refine blk_alloc ?_ _)); exact BK222.out⟩
                 have n2_ : Aside0 ((((w29.setCell ⟨gb224, 0, none⟩ (.int .i64 ((rd_T43 l0 x25_2).f0))).setCell ⟨gb224, 1, none⟩ (.int .i64 ((rd_T43 l0 x25_2).f1))).setCell ⟨gb224, 2, none⟩ (.int .i64 ((rd_T43 l0 x25_2).f2))).heap[gb224]? = some (.cells #[.int .i64 ((rd_T43 l0 x25_2).f0), .int .i64 ((rd_T43 l0 x25_2).f1), .int .i64 ((rd_T43 l0 x25_2).f2)] 43 (0, 0))) := ⟨by (with_reducible repeat (first | refine blk_drewN ?_ _ | refine blk_drew ?_ | refine blk_alloc ?_ _)); refine blk_put (cs := #[.int .i64 ((rd_T43 l0 x25_2).f0), .int .i64 ((rd_T43 l0 x25_2).f1), .int .i64 0]) ?_ 2 _ rfl; (with_reducible repeat (first | refine blk_drewN ?_ _ | refine blk_drew ?_ | refine blk_alloc ?_ _)); refine blk_put (cs := #[.int .i64 ((rd_T43 l0 x25_2).f0), .int .i64 0, .int .i64 0]) ?_ 1 _ rfl; (with_reducible repeat (first | refine blk_drewN ?_ _ | refine blk_drew ?_ | refine blk_alloc ?_ _)); refine blk_put (cs := #[.int .i64 0, .int .i64 0, .int .i64 0]) ?_ 0 _ rfl; (with_reducible repeat (first | refine blk_drewN ?_ _ | refine blk_drew ?_ | refine blk_alloc ?_ _)); exact BK224.out⟩
                 have n3_ : Aside0 (Below w.heap.size w (((w29.setCell ⟨gb224, 0, none⟩ (.int .i64 ((rd_T43 l0 x25_2).f0))).setCell ⟨gb224, 1, none⟩ (.int .i64 ((rd_T43 l0 x25_2).f1))).setCell ⟨gb224, 2, none⟩ (.int .i64 ((rd_T43 l0 x25_2).f2)))) := ⟨by repeat (first | (with_reducible first | exact HB.out | apply below_alloc | apply pw_below_drewN | apply below_drew1 | refine below_set ?_ GE222.out | refine below_set ?_ GE224.out) | exact HB.out)⟩
                 (try clear HO_4)
                 (try clear BK222)
                 (try clear BK224)
                 (try clear HB)
                 generalize (((w29.setCell ⟨gb224, 0, none⟩ (.int .i64 ((rd_T43 l0 x25_2).f0))).setCell ⟨gb224, 1, none⟩ (.int .i64 ((rd_T43 l0 x25_2).f1))).setCell ⟨gb224, 2, none⟩ (.int .i64 ((rd_T43 l0 x25_2).f2))) = w32 at n0_ n1_ n2_ n3_ ⊢
                 have HO_4 := n0_
                 have BK222 := n1_
                 have BK224 := n2_
                 have HB := n3_
                 clear n0_ n1_ n2_ n3_
                 have n0_ := Aside0.mk (Kd.R_drew HO_4.out)
                 have n1_ := Aside0.mk (blk_drew BK222.out)
                 have n2_ := Aside0.mk (blk_drew BK224.out)
                 have n3_ := Aside0.mk (below_drew1 HB.out)
                 clear HO_4
                 clear BK222
                 clear BK224
                 clear HB
                 have HO_4 := n0_
                 have BK222 := n1_
                 have BK224 := n2_
                 have HB := n3_
                 clear n0_ n1_ n2_ n3_
                 have p226 : 0 ≤ (x7_2 : Int) := of_decide_eq_true (by first | (with_reducible assumption) | assumption)
                 have q226 : x7_2 < (l0.length : Int) := of_decide_eq_true (by first | (with_reducible assumption) | assumption)
                 obtain ⟨ad226, e226, hx226_0, hx226_1, hx226_2⟩ := at_T43 HR0.out x7_2 p226 q226
                 have hw226_2 := hx226_2
                 have hw226_1 := hx226_1
                 have hw226_0 := hx226_0
                 obtain rfl : ad221 = ad226 := (by injection e226)
                 replace hx226_0 := (HB.out.cell (World.block_lt_of_cell? w _ hx226_0)).trans hx226_0
                 replace hx226_1 := (HB.out.cell (World.block_lt_of_cell? w _ hx226_1)).trans hx226_1
                 replace hx226_2 := (HB.out.cell (World.block_lt_of_cell? w _ hx226_2)).trans hx226_2
                 replace p226 := eq_true p226
                 replace q226 := eq_true q226
                 refine start_ (n := 17) (S := fun w' => w'.cell? ⟨gb224, 0, none⟩ = some (.int .i64 ((rd_T43 l0 x25_2).f0)) ∧ w'.cell? ⟨gb224, 1, none⟩ = some (.int .i64 ((rd_T43 l0 x25_2).f1)) ∧ w'.cell? ⟨gb224, 2, none⟩ = some (.int .i64 ((rd_T43 l0 x25_2).f2)) ∧ w'.cell? ⟨gb222, 0, none⟩ = some (.int .i64 ((rd_T43 l0 x19_1).f0)) ∧ w'.cell? ⟨gb222, 1, none⟩ = some (.int .i64 ((rd_T43 l0 x19_1).f1)) ∧ w'.cell? ⟨gb222, 2, none⟩ = some (.int .i64 ((rd_T43 l0 x19_1).f2)) ∧ w'.cell? (ad221.add ((x7_2).toNat * 3)) = some (.int .i64 ((rd_T43 l0 x7_2).f0)) ∧ w'.cell? ⟨(ad221.add ((x7_2).toNat * 3)).block, (ad221.add ((x7_2).toNat * 3)).off + 1, none⟩ = some (.int .i64 ((rd_T43 l0 x7_2).f1)) ∧ w'.cell? ⟨(ad221.add ((x7_2).toNat * 3)).block, (ad221.add ((x7_2).toNat * 3)).off + 2, none⟩ = some (.int .i64 ((rd_T43 l0 x7_2).f2))) (ds := []) #[false, false, false, false, false, false, false, false, false, false, false, false, false, false, false, false, false] (by kernel_rfl) rfl rfl ⟨(blk_cell BK224.out 0).trans rfl, (blk_cell BK224.out 1).trans rfl, (blk_cell BK224.out 2).trans rfl, (blk_cell BK222.out 0).trans rfl, (blk_cell BK222.out 1).trans rfl, (blk_cell BK222.out 2).trans rfl, ((HB.out.cell (World.block_lt_of_cell? w _ hw226_0)).trans hw226_0), ((HB.out.cell (World.block_lt_of_cell? w _ hw226_1)).trans hw226_1), ((HB.out.cell (World.block_lt_of_cell? w _ hw226_2)).trans hw226_2)⟩ (fun hHeld => ?_); refine with_tabW corporaref10_Parents.tab11 corporaref10_Parents.bits11 (fun HT_ HW_ => ?_)
                 generalize w32.drew = w33 at HO_4 BK222 BK224 HB hx226_0 hx226_1 hx226_2 hHeld ⊢
                 refine take_ (i := 0) (N := some 30) (v := ?_) (a' := ?_) #[true, false, false, false, false, false, false, false, false, false, false, false, false, false, false, false, false] rfl rfl (take_ofW HT_.out HW_.out (by kernel_rfl)) (fun _ _ _ h => h) (Or.inl ⟨by rfl, ?_⟩) hHeld ?_ ?_
                 rotate_left
                 ·rintro w' ⟨s0, s1, s2, s3, s4, s5, s6, s7, s8⟩
                  go_simp
                  with_reducible rfl
                 rotate_left
                 ·simp only [Act.put, List.setIfInBounds_toArray, List.set_cons_zero, List.set_cons_succ, i64_w, i32_w]
                  rfl
                 refine take_ (i := 1) (N := some 31) (v := ?_) (a' := ?_) #[true, true, false, false, false, false, false, false, false, false, false, false, false, false, false, false, false] rfl rfl (take_ofW HT_.out HW_.out (by kernel_rfl)) (fun _ _ _ h => h) (Or.inl ⟨by rfl, ?_⟩) hHeld ?_ ?_
                 rotate_left
                 ·rintro w' ⟨s0, s1, s2, s3, s4, s5, s6, s7, s8⟩
                  go_simp
                  with_reducible rfl
                 rotate_left
                 ·simp only [Act.put, List.setIfInBounds_toArray, List.set_cons_zero, List.set_cons_succ, i64_w, i32_w]
                  rfl
                 refine one_ (i := 2) (N := some 32) #[true, true, true, false, false, false, false, false, false, false, false, false, false, false, false, false, false] rfl rfl (one_of HT_.out (by kernel_rfl)) (by decide) (fun K hK => ?_)
                 refine goes_ Try.func22 (by kernel_rfl) rfl #[.agg #[.int .i64 ((rd_T43 l0 x25_2).f0), .int .i64 ((rd_T43 l0 x25_2).f1), .int .i64 ((rd_T43 l0 x25_2).f2)], .agg #[.int .i64 ((rd_T43 l0 x19_1).f0), .int .i64 ((rd_T43 l0 x19_1).f1), .int .i64 ((rd_T43 l0 x19_1).f2)]] (by rfl) rfl rfl (by (try simp only [List.map_toArray, List.map_cons, List.map_nil]); first | done | rfl | (simp only [List.length_drop, List.length_take]; rfl)) ?_
                 with_reducible refine (corporaref10_Dominates.calls ((rd_T43 l0 x25_2).f0) ((rd_T43 l0 x25_2).f1) ((rd_T43 l0 x25_2).f2) ((rd_T43 l0 x19_1).f0) ((rd_T43 l0 x19_1).f1) ((rd_T43 l0 x19_1).f2) true _ A11.out).mono ?_
                 rintro e w34 ⟨rfl, hb⟩
                 refine ⟨_, rfl, ?_⟩
                 have n0_ := Aside0.mk (Kd.R_below (by (with_reducible repeat (first | apply Kd.R_alloc | apply Kd.R_drewN | apply Kd.R_drew)); exact HO_4.out) hb)
                 have n1_ := Aside0.mk (blk_below (g := gb222) (o := .cells #[.int .i64 ((rd_T43 l0 x19_1).f0), .int .i64 ((rd_T43 l0 x19_1).f1), .int .i64 ((rd_T43 l0 x19_1).f2)] 43 (0, 0)) (by (with_reducible repeat (first | refine blk_drewN ?_ _ | refine blk_drew ?_ | refine blk_alloc ?_ _)); exact BK222.out) hb)
                 have n2_ := Aside0.mk (blk_below (g := gb224) (o := .cells #[.int .i64 ((rd_T43 l0 x25_2).f0), .int .i64 ((rd_T43 l0 x25_2).f1), .int .i64 ((rd_T43 l0 x25_2).f2)] 43 (0, 0)) (by (with_reducible repeat (first | refine blk_drewN ?_ _ | refine blk_drew ?_ | refine blk_alloc ?_ _)); exact BK224.out) hb)
                 have n3_ := Aside0.mk (below_step (by repeat (first | (with_reducible first | exact HB.out | apply below_alloc | apply pw_below_drewN | apply below_drew1 | refine below_set ?_ GE222.out | refine below_set ?_ GE224.out) | exact HB.out)) hb)
                 clear HO_4
                 clear BK222
                 clear BK224
                 clear HB
                 have HO_4 := n0_
                 have BK222 := n1_
                 have BK224 := n2_
                 have HB := n3_
                 clear n0_ n1_ n2_ n3_
                 (try clear hb)
                 (try clear hb2)
                 (try clear hk)
                 (try clear hi)
                 refine hK.out _ _ ⟨(blk_cell BK224.out 0).trans rfl, (blk_cell BK224.out 1).trans rfl, (blk_cell BK224.out 2).trans rfl, (blk_cell BK222.out 0).trans rfl, (blk_cell BK222.out 1).trans rfl, (blk_cell BK222.out 2).trans rfl, ((HB.out.cell (World.block_lt_of_cell? w _ hw226_0)).trans hw226_0), ((HB.out.cell (World.block_lt_of_cell? w _ hw226_1)).trans hw226_1), ((HB.out.cell (World.block_lt_of_cell? w _ hw226_2)).trans hw226_2)⟩ (fun hHeld => ?_)
                 clear hK K
                 refine norm_ (a' := ?_) ?_ ?_
                 rotate_left
                 ·show Act.put _ (some 32) _ = _
                  simp only [Act.put, List.setIfInBounds_toArray, List.set_cons_zero, List.set_cons_succ, i64_w, i32_w]
                  rfl
                 refine pure_ (i := 3) (N := some 33) (v := ?_) (a' := ?_) #[true, true, true, true, false, false, false, false, false, false, false, false, false, false, false, false, false] rfl rfl (any_of HT_.out (by kernel_rfl)) (fun _ _ _ h => h) (Or.inl ⟨by rfl, ?_⟩) ?_ ?_
                 rotate_left
                 ·intro w'
                  go_simp
                  with_reducible rfl
                 rotate_left
                 ·simp only [Act.put, List.setIfInBounds_toArray, List.set_cons_zero, List.set_cons_succ, i64_w, i32_w]
                  rfl
                 refine pure_ (i := 4) (N := some 34) (v := ?_) (a' := ?_) #[true, true, true, true, true, false, false, false, false, false, false, false, false, false, false, false, false] rfl rfl (any_of HT_.out (by kernel_rfl)) (fun _ _ _ h => h) (Or.inl ⟨by rfl, ?_⟩) ?_ ?_
                 rotate_left
                 ·intro w'
                  go_simp
                  with_reducible rfl
                 rotate_left
                 ·simp only [Act.put, List.setIfInBounds_toArray, List.set_cons_zero, List.set_cons_succ, i64_w, i32_w]
                  rfl
                 refine pure_ (i := 5) (N := some 35) (v := ?_) (a' := ?_) #[true, true, true, true, true, true, false, false, false, false, false, false, false, false, false, false, false] rfl rfl (any_of HT_.out (by kernel_rfl)) (fun _ _ _ h => h) (Or.inl ⟨by rfl, ?_⟩) ?_ ?_
                 rotate_left
                 ·intro w'
                  go_simp
                  with_reducible rfl
                 rotate_left
                 ·simp only [Act.put, List.setIfInBounds_toArray, List.set_cons_zero, List.set_cons_succ, i64_w, i32_w]
                  rfl
                 refine pure_ (i := 6) (N := some 36) (v := ?_) (a' := ?_) #[true, true, true, true, true, true, true, false, false, false, false, false, false, false, false, false, false] rfl rfl (any_of HT_.out (by kernel_rfl)) (fun _ _ _ h => h) (Or.inl ⟨by rfl, ?_⟩) ?_ ?_
                 rotate_left
                 ·intro w'
                  go_simp
                  with_reducible rfl
                 rotate_left
                 ·simp only [Act.put, List.setIfInBounds_toArray, List.set_cons_zero, List.set_cons_succ, i64_w, i32_w]
                  rfl
                 refine pure_ (i := 7) (N := some 37) (v := ?_) (a' := ?_) #[true, true, true, true, true, true, true, true, false, false, false, false, false, false, false, false, false] rfl rfl (any_of HT_.out (by kernel_rfl)) (fun _ _ _ h => h) (Or.inl ⟨by rfl, ?_⟩) ?_ ?_
                 rotate_left
                 ·intro w'
                  go_simp
                  with_reducible rfl
                 rotate_left
                 ·simp only [Act.put, List.setIfInBounds_toArray, List.set_cons_zero, List.set_cons_succ, i64_w, i32_w]
                  rfl
                 refine pure_ (i := 9) (N := some 39) (v := ?_) (a' := ?_) #[true, true, true, true, true, true, true, true, false, true, false, false, false, false, false, false, false] rfl rfl (any_of HT_.out (by kernel_rfl)) (fun _ _ _ h => h) (Or.inl ⟨by rfl, ?_⟩) ?_ ?_
                 rotate_left
                 ·intro w'
                  go_simp
                  with_reducible rfl
                 rotate_left
                 ·simp only [Act.put, List.setIfInBounds_toArray, List.set_cons_zero, List.set_cons_succ, i64_w, i32_w]
                  rfl
                 refine pure_ (i := 10) (N := some 40) (v := ?_) (a' := ?_) #[true, true, true, true, true, true, true, true, false, true, true, false, false, false, false, false, false] rfl rfl (any_of HT_.out (by kernel_rfl)) (fun _ _ _ h => h) (Or.inl ⟨by rfl, ?_⟩) ?_ ?_
                 rotate_left
                 ·intro w'
                  go_simp
                  with_reducible rfl
                 rotate_left
                 ·simp only [Act.put, List.setIfInBounds_toArray, List.set_cons_zero, List.set_cons_succ, i64_w, i32_w]
                  rfl
                 refine pure_ (i := 11) (N := some 41) (v := ?_) (a' := ?_) #[true, true, true, true, true, true, true, true, false, true, true, true, false, false, false, false, false] rfl rfl (any_of HT_.out (by kernel_rfl)) (fun _ _ _ h => h) (Or.inl ⟨by rfl, ?_⟩) ?_ ?_
                 rotate_left
                 ·intro w'
                  go_simp
                  with_reducible rfl
                 rotate_left
                 ·simp only [Act.put, List.setIfInBounds_toArray, List.set_cons_zero, List.set_cons_succ, i64_w, i32_w]
                  rfl
                 refine pure_ (i := 12) (N := some 42) (v := ?_) (a' := ?_) #[true, true, true, true, true, true, true, true, false, true, true, true, true, false, false, false, false] rfl rfl (any_of HT_.out (by kernel_rfl)) (fun _ _ _ h => h) (Or.inl ⟨by rfl, ?_⟩) ?_ ?_
                 rotate_left
                 ·intro w'
                  go_simp
                  with_reducible rfl
                 rotate_left
                 ·simp only [Act.put, List.setIfInBounds_toArray, List.set_cons_zero, List.set_cons_succ, i64_w, i32_w]
                  rfl
                 refine take_ (i := 8) (N := some 38) (v := ?_) (a' := ?_) #[true, true, true, true, true, true, true, true, true, true, true, true, true, false, false, false, false] rfl rfl (take_ofW HT_.out HW_.out (by kernel_rfl)) (fun _ _ _ h => h) (Or.inl ⟨by rfl, ?_⟩) hHeld ?_ ?_
                 rotate_left
                 ·rintro w' ⟨s0, s1, s2, s3, s4, s5, s6, s7, s8⟩
                  go_simp
                  with_reducible rfl
                 rotate_left
                 ·simp only [Act.put, List.setIfInBounds_toArray, List.set_cons_zero, List.set_cons_succ, i64_w, i32_w]
                  rfl
                 refine take_ (i := 13) (N := some 43) (v := ?_) (a' := ?_) #[true, true, true, true, true, true, true, true, true, true, true, true, true, true, false, false, false] rfl rfl (take_ofW HT_.out HW_.out (by kernel_rfl)) (fun _ _ _ h => h) (Or.inl ⟨by rfl, ?_⟩) hHeld ?_ ?_
                 rotate_left
                 ·rintro w' ⟨s0, s1, s2, s3, s4, s5, s6, s7, s8⟩
                  go_simp
                  with_reducible rfl
                 rotate_left
                 ·simp only [Act.put, List.setIfInBounds_toArray, List.set_cons_zero, List.set_cons_succ, i64_w, i32_w]
                  rfl
                 refine pure_ (i := 14) (N := some 44) (v := ?_) (a' := ?_) #[true, true, true, true, true, true, true, true, true, true, true, true, true, true, true, false, false] rfl rfl (any_of HT_.out (by kernel_rfl)) (fun _ _ _ h => h) (Or.inl ⟨by rfl, ?_⟩) ?_ ?_
                 rotate_left
                 ·intro w'
                  go_simp
                  with_reducible rfl
                 rotate_left
                 ·simp only [Act.put, List.setIfInBounds_toArray, List.set_cons_zero, List.set_cons_succ, i64_w, i32_w]
                  rfl
                 refine pure_ (i := 15) (N := some 45) (v := ?_) (a' := ?_) #[true, true, true, true, true, true, true, true, true, true, true, true, true, true, true, true, false] rfl rfl (any_of HT_.out (by kernel_rfl)) (fun _ _ _ h => h) (Or.inl ⟨by rfl, ?_⟩) ?_ ?_
                 rotate_left
                 ·intro w'
                  go_simp
                  with_reducible rfl
                 rotate_left
                 ·simp only [Act.put, List.setIfInBounds_toArray, List.set_cons_zero, List.set_cons_succ, i64_w, i32_w]
                  rfl
                 refine pure_ (i := 16) (N := some 46) (v := ?_) (a' := ?_) #[true, true, true, true, true, true, true, true, true, true, true, true, true, true, true, true, true] rfl rfl (any_of HT_.out (by kernel_rfl)) (fun _ _ _ h => h) (Or.inl ⟨by rfl, ?_⟩) ?_ ?_
                 rotate_left
                 ·intro w'
                  go_simp
                  with_reducible rfl
                 rotate_left
                 ·simp only [Act.put, List.setIfInBounds_toArray, List.set_cons_zero, List.set_cons_succ, i64_w, i32_w]
                  rfl
                 refine done_ (done_of HT_.out (by kernel_rfl)) ?_
                 try go_wp2
                 go_roundg k2
                 case measure => have := HK1.out; have := HK2.out; omega
                 case rel => exact ⟨(x7_2), (wrap64 (x25_2 + 1)), (by first | rfl | (simp; done) | (simp [*]; done)), (by first | rfl | (simp; done) | (simp [*]; done)), H', ⟨by have := HK1.out; have := HK2.out; omega⟩, ⟨by (with_reducible repeat (first | apply Kd.R_alloc | apply Kd.R_drewN | apply Kd.R_drew)); exact HO_4.out⟩, ⟨by (with_reducible repeat (first | refine blk_drewN ?_ _ | refine blk_drew ?_ | refine blk_alloc ?_ _)); exact BK222.out⟩, ⟨by repeat (first | (with_reducible first | exact HB.out | apply below_alloc | apply pw_below_drewN | apply below_drew1 | refine below_set ?_ GE222.out | refine below_set ?_ GE224.out) | exact HB.out)⟩⟩
               ·rw [if_neg c21] at H
                exact absurd H (by simp)
              ·rw [if_neg c20] at H
               exact absurd H (by simp)
            ·replace c12 := Bool.eq_false_iff.mpr c12
             subst c12
             have H1 : (corporaref10_Parents.l1 k2 l0 x4_1 x7_2 l0 (l0.length : Int) x19_1 l0 (l0.length : Int) (wrap64 (x25_2 + 1)) ((rd_T43 l0 x19_1).f0) ((rd_T43 l0 x19_1).f1) ((rd_T43 l0 x19_1).f2)) = some (r1, r2) := by rw [if_neg (show ¬ (false = true) by decide)] at H; exact H
             clear H
             have H := H1
             clear H1
             have H' := Aside0.mk H
             clear H
             have p223 : 0 ≤ (x25_2 : Int) := of_decide_eq_true (by first | (with_reducible assumption) | assumption)
             have q223 : x25_2 < (l0.length : Int) := of_decide_eq_true (by first | (with_reducible assumption) | assumption)
             obtain ⟨ad223, e223, hx223_0, hx223_1, hx223_2⟩ := at_T43 HR0.out x25_2 p223 q223
             obtain rfl : ad221 = ad223 := (by injection e223)
             replace hx223_0 := (HB.out.cell (World.block_lt_of_cell? w _ hx223_0)).trans hx223_0
             replace hx223_1 := (HB.out.cell (World.block_lt_of_cell? w _ hx223_1)).trans hx223_1
             replace hx223_2 := (HB.out.cell (World.block_lt_of_cell? w _ hx223_2)).trans hx223_2
             replace p223 := eq_true p223
             replace q223 := eq_true q223
             try go_wp2_with (first | ((with_reducible refine gate_dst (N := 9) rfl ?_); refine box_event ?hg (N := 9) ?hd (cs := #[.int .i64 0, .int .i64 0, .int .i64 0]) (t := 43) ?hr ?_; (case hd => rfl); (case hg => rfl); (case hr => first | (go_simp; done) | (go_simp; rfl)); intro gb224 hg w35 hbox hb; have n0_ := Aside0.mk (Kd.R_below (by (with_reducible repeat (first | apply Kd.R_alloc | apply Kd.R_drewN | apply Kd.R_drew)); exact HO_4.out) hb); have n1_ := Aside0.mk (blk_below (g := gb222) (o := .cells #[.int .i64 ((rd_T43 l0 x19_1).f0), .int .i64 ((rd_T43 l0 x19_1).f1), .int .i64 ((rd_T43 l0 x19_1).f2)] 43 (0, 0)) (by (with_reducible repeat (first | refine blk_drewN ?_ _ | refine blk_drew ?_ | refine blk_alloc ?_ _)); exact BK222.out) hb); have n2_ := Aside0.mk (below_step (by repeat (first | (with_reducible first | exact HB.out | apply below_alloc | apply pw_below_drewN | apply below_drew1 | refine below_set ?_ GE222.out) | exact HB.out)) hb); have n3_ := Aside0.mk (hbox); have n4_ := Aside0.mk ((by rw [hg]; exact (below_size (by repeat (first | (with_reducible first | exact HB.out | apply below_alloc | apply pw_below_drewN | apply below_drew1 | refine below_set ?_ GE222.out) | exact HB.out))) : w.heap.size ≤ gb224)); have n5_ := Aside0.mk ((by rw [hg]; exact (below_size (by repeat (first | (with_reducible first | exact HB.out | apply below_alloc | apply pw_below_drewN | apply below_drew1 | refine below_set ?_ GE222.out) | exact HB.out))) : w.heap.size ≤ gb224)); have n6_ := Aside0.mk ((by rw [hg]; exact Nat.ne_of_lt (blk_lt (g := gb222) (o := .cells #[.int .i64 ((rd_T43 l0 x19_1).f0), .int .i64 ((rd_T43 l0 x19_1).f1), .int .i64 ((rd_T43 l0 x19_1).f2)] 43 (0, 0)) (by (with_reducible repeat (first | refine blk_drewN ?_ _ | refine blk_drew ?_ | refine blk_alloc ?_ _)); exact BK222.out)) : gb222 ≠ gb224)); have n7_ := Aside0.mk ((by rw [hg]; exact Nat.ne_of_gt (blk_lt (g := gb222) (o := .cells #[.int .i64 ((rd_T43 l0 x19_1).f0), .int .i64 ((rd_T43 l0 x19_1).f1), .int .i64 ((rd_T43 l0 x19_1).f2)] 43 (0, 0)) (by (with_reducible repeat (first | refine blk_drewN ?_ _ | refine blk_drew ?_ | refine blk_alloc ?_ _)); exact BK222.out)) : gb224 ≠ gb222)); clear HO_4; clear BK222; clear HB; have HO_4 := n0_; have BK222 := n1_; have HB := n2_; have BK224 := n3_; have GW224 := n4_; have GE224 := n5_; have NB222_224 := n6_; have NB224_222 := n7_; clear n0_ n1_ n2_ n3_ n4_ n5_ n6_ n7_; clear hb hbox hg; have hnb36 := NB224_222.out; have hnc36 := NB222_224.out; have hcz37_0 : w35.cell? ⟨gb224, 0, none⟩ = some (.int .i64 0) := (blk_cell BK224.out 0).trans rfl; have hcz37_1 : w35.cell? ⟨gb224, 1, none⟩ = some (.int .i64 0) := (blk_cell BK224.out 1).trans rfl; have hcz37_2 : w35.cell? ⟨gb224, 2, none⟩ = some (.int .i64 0) := (blk_cell BK224.out 2).trans rfl; have hfz37_0 := blk_frozen BK224.out 0; have hfz37_1 := blk_frozen BK224.out 1; have hfz37_2 := blk_frozen BK224.out 2))
             have n0_ : Aside0 (Kd.R (Kd.int .i64) 3 (((w35.setCell ⟨gb224, 0, none⟩ (.int .i64 ((rd_T43 l0 x25_2).f0))).setCell ⟨gb224, 1, none⟩ (.int .i64 ((rd_T43 l0 x25_2).f1))).setCell ⟨gb224, 2, none⟩ (.int .i64 ((rd_T43 l0 x25_2).f2))) w.heap.size (fun _ => True) u4 x4_1) := ⟨by (with_reducible repeat (first | apply Kd.R_alloc | apply Kd.R_drewN | apply Kd.R_drew)); exact Kd.R_mono (Kd.R_far (p := ⟨gb224, 2, none⟩) (Kd.R_far (p := ⟨gb224, 1, none⟩) (Kd.R_far (p := ⟨gb224, 0, none⟩) (Kd.R_types HO_4.out BK224.out (by decide)) (fun _ hk => hk.2) (.int .i64 ((rd_T43 l0 x25_2).f0))) (fun _ hk => hk.2) (.int .i64 ((rd_T43 l0 x25_2).f1))) (fun _ hk => hk.2) (.int .i64 ((rd_T43 l0 x25_2).f2))) (fun _ hk => trivial)⟩
             have n1_ : Aside0 ((((w35.setCell ⟨gb224, 0, none⟩ (.int .i64 ((rd_T43 l0 x25_2).f0))).setCell ⟨gb224, 1, none⟩ (.int .i64 ((rd_T43 l0 x25_2).f1))).setCell ⟨gb224, 2, none⟩ (.int .i64 ((rd_T43 l0 x25_2).f2))).heap[gb222]? = some (.cells #[.int .i64 ((rd_T43 l0 x19_1).f0), .int .i64 ((rd_T43 l0 x19_1).f1), .int .i64 ((rd_T43 l0 x19_1).f2)] 43 (0, 0))) := ⟨by (with_reducible repeat (first | refine blk_drewN ?_ _ | refine blk_drew ?_ | refine blk_alloc ?_ _)); refine blk_far ?_ NB222_224.out _; (with_reducible repeat (first | refine blk_drewN ?_ _ | refine blk_drew ?_ | refine blk_alloc ?_ _)); refine blk_far ?_ NB222_224.out _; (with_reducible repeat (first | refine blk_drewN ?_ _ | refine blk_drew ?_ | refine blk_alloc ?_ _)); refine blk_far ?_ NB222_224.out _; (with_reducible repeat (first | refine blk_drewN ?_ _ | refine blk_drew ?_ | refine blk_alloc ?_ _)); exact BK222.out⟩
             have n2_ : Aside0 ((((w35.setCell ⟨gb224, 0, none⟩ (.int .i64 ((rd_T43 l0 x25_2).f0))).setCell ⟨gb224, 1, none⟩ (.int .i64 ((rd_T43 l0 x25_2).f1))).setCell ⟨gb224, 2, none⟩ (.int .i64 ((rd_T43 l0 x25_2).f2))).heap[gb224]? = some (.cells #[.int .i64 ((rd_T43 l0 x25_2).f0), .int .i64 ((rd_T43 l0 x25_2).f1), .int .i64 ((rd_T43 l0 x25_2).f2)] 43 (0, 0))) := ⟨by (with_reducible repeat (first | refine blk_drewN ?_ _ | refine blk_drew ?_ | refine blk_alloc ?_ _)); refine blk_put (cs := #[.int .i64 ((rd_T43 l0 x25_2).f0), .int .i64 ((rd_T43 l0 x25_2).f1), .int .i64 0]) ?_ 2 _ rfl; (with_reducible repeat (first | refine blk_drewN ?_ _ | refine blk_drew ?_ | refine blk_alloc ?_ _)); refine blk_put (cs := #[.int .i64 ((rd_T43 l0 x25_2).f0), .int .i64 0, .int .i64 0]) ?_ 1 _ rfl; (with_reducible repeat (first | refine blk_drewN ?_ _ | refine blk_drew ?_ | refine blk_alloc ?_ _)); refine blk_put (cs := #[.int .i64 0, .int .i64 0, .int .i64 0]) ?_ 0 _ rfl; (with_reducible repeat (first | refine blk_drewN ?_ _ | refine blk_drew ?_ | refine blk_alloc ?_ _)); exact BK224.out⟩
             have n3_ : Aside0 (Below w.heap.size w (((w35.setCell ⟨gb224, 0, none⟩ (.int .i64 ((rd_T43 l0 x25_2).f0))).setCell ⟨gb224, 1, none⟩ (.int .i64 ((rd_T43 l0 x25_2).f1))).setCell ⟨gb224, 2, none⟩ (.int .i64 ((rd_T43 l0 x25_2).f2)))) := ⟨by repeat (first | (with_reducible first | exact HB.out | apply below_alloc | apply pw_below_drewN | apply below_drew1 | refine below_set ?_ GE222.out | refine below_set ?_ GE224.out) | exact HB.out)⟩
             (try clear HO_4)
             (try clear BK222)
             (try clear BK224)
             (try clear HB)
             generalize (((w35.setCell ⟨gb224, 0, none⟩ (.int .i64 ((rd_T43 l0 x25_2).f0))).setCell ⟨gb224, 1, none⟩ (.int .i64 ((rd_T43 l0 x25_2).f1))).setCell ⟨gb224, 2, none⟩ (.int .i64 ((rd_T43 l0 x25_2).f2))) = w38 at n0_ n1_ n2_ n3_ ⊢
             have HO_4 := n0_
             have BK222 := n1_
             have BK224 := n2_
             have HB := n3_
             clear n0_ n1_ n2_ n3_
             have n0_ := Aside0.mk (Kd.R_drew HO_4.out)
             have n1_ := Aside0.mk (blk_drew BK222.out)
             have n2_ := Aside0.mk (blk_drew BK224.out)
             have n3_ := Aside0.mk (below_drew1 HB.out)
             clear HO_4
             clear BK222
             clear BK224
             clear HB
             have HO_4 := n0_
             have BK222 := n1_
             have BK224 := n2_
             have HB := n3_
             clear n0_ n1_ n2_ n3_
             refine start_ (n := 17) (S := fun w' => w'.cell? ⟨gb224, 0, none⟩ = some (.int .i64 ((rd_T43 l0 x25_2).f0)) ∧ w'.cell? ⟨gb224, 1, none⟩ = some (.int .i64 ((rd_T43 l0 x25_2).f1)) ∧ w'.cell? ⟨gb224, 2, none⟩ = some (.int .i64 ((rd_T43 l0 x25_2).f2)) ∧ w'.cell? ⟨gb222, 0, none⟩ = some (.int .i64 ((rd_T43 l0 x19_1).f0)) ∧ w'.cell? ⟨gb222, 1, none⟩ = some (.int .i64 ((rd_T43 l0 x19_1).f1)) ∧ w'.cell? ⟨gb222, 2, none⟩ = some (.int .i64 ((rd_T43 l0 x19_1).f2))) (ds := []) #[false, false, false, false, false, false, false, false, false, false, false, false, false, false, false, false, false] (by kernel_rfl) rfl rfl ⟨(blk_cell BK224.out 0).trans rfl, (blk_cell BK224.out 1).trans rfl, (blk_cell BK224.out 2).trans rfl, (blk_cell BK222.out 0).trans rfl, (blk_cell BK222.out 1).trans rfl, (blk_cell BK222.out 2).trans rfl⟩ (fun hHeld => ?_); refine with_tabW corporaref10_Parents.tab11 corporaref10_Parents.bits11 (fun HT_ HW_ => ?_)
             generalize w38.drew = w39 at HO_4 BK222 BK224 HB hHeld ⊢
             refine take_ (i := 0) (N := some 30) (v := ?_) (a' := ?_) #[true, false, false, false, false, false, false, false, false, false, false, false, false, false, false, false, false] rfl rfl (take_ofW HT_.out HW_.out (by kernel_rfl)) (fun _ _ _ h => h) (Or.inl ⟨by rfl, ?_⟩) hHeld ?_ ?_
             rotate_left
             ·rintro w' ⟨s0, s1, s2, s3, s4, s5⟩
              go_simp
              with_reducible rfl
             rotate_left
             ·simp only [Act.put, List.setIfInBounds_toArray, List.set_cons_zero, List.set_cons_succ, i64_w, i32_w]
              rfl
             refine take_ (i := 1) (N := some 31) (v := ?_) (a' := ?_) #[true, true, false, false, false, false, false, false, false, false, false, false, false, false, false, false, false] rfl rfl (take_ofW HT_.out HW_.out (by kernel_rfl)) (fun _ _ _ h => h) (Or.inl ⟨by rfl, ?_⟩) hHeld ?_ ?_
             rotate_left
             ·rintro w' ⟨s0, s1, s2, s3, s4, s5⟩
              go_simp
              with_reducible rfl
             rotate_left
             ·simp only [Act.put, List.setIfInBounds_toArray, List.set_cons_zero, List.set_cons_succ, i64_w, i32_w]
              rfl
             refine one_ (i := 2) (N := some 32) #[true, true, true, false, false, false, false, false, false, false, false, false, false, false, false, false, false] rfl rfl (one_of HT_.out (by kernel_rfl)) (by decide) (fun K hK => ?_)
             refine goes_ Try.func22 (by kernel_rfl) rfl #[.agg #[.int .i64 ((rd_T43 l0 x25_2).f0), .int .i64 ((rd_T43 l0 x25_2).f1), .int .i64 ((rd_T43 l0 x25_2).f2)], .agg #[.int .i64 ((rd_T43 l0 x19_1).f0), .int .i64 ((rd_T43 l0 x19_1).f1), .int .i64 ((rd_T43 l0 x19_1).f2)]] (by rfl) rfl rfl (by (try simp only [List.map_toArray, List.map_cons, List.map_nil]); first | done | rfl | (simp only [List.length_drop, List.length_take]; rfl)) ?_
             with_reducible refine (corporaref10_Dominates.calls ((rd_T43 l0 x25_2).f0) ((rd_T43 l0 x25_2).f1) ((rd_T43 l0 x25_2).f2) ((rd_T43 l0 x19_1).f0) ((rd_T43 l0 x19_1).f1) ((rd_T43 l0 x19_1).f2) false _ A11.out).mono ?_
             rintro e w40 ⟨rfl, hb⟩
             refine ⟨_, rfl, ?_⟩
             have n0_ := Aside0.mk (Kd.R_below (by (with_reducible repeat (first | apply Kd.R_alloc | apply Kd.R_drewN | apply Kd.R_drew)); exact HO_4.out) hb)
             have n1_ := Aside0.mk (blk_below (g := gb222) (o := .cells #[.int .i64 ((rd_T43 l0 x19_1).f0), .int .i64 ((rd_T43 l0 x19_1).f1), .int .i64 ((rd_T43 l0 x19_1).f2)] 43 (0, 0)) (by (with_reducible repeat (first | refine blk_drewN ?_ _ | refine blk_drew ?_ | refine blk_alloc ?_ _)); exact BK222.out) hb)
             have n2_ := Aside0.mk (blk_below (g := gb224) (o := .cells #[.int .i64 ((rd_T43 l0 x25_2).f0), .int .i64 ((rd_T43 l0 x25_2).f1), .int .i64 ((rd_T43 l0 x25_2).f2)] 43 (0, 0)) (by (with_reducible repeat (first | refine blk_drewN ?_ _ | refine blk_drew ?_ | refine blk_alloc ?_ _)); exact BK224.out) hb)
             have n3_ := Aside0.mk (below_step (by repeat (first | (with_reducible first | exact HB.out | apply below_alloc | apply pw_below_drewN | apply below_drew1 | refine below_set ?_ GE222.out | refine below_set ?_ GE224.out) | exact HB.out)) hb)
             clear HO_4
             clear BK222
             clear BK224
             clear HB
             have HO_4 := n0_
             have BK222 := n1_
             have BK224 := n2_
             have HB := n3_
             clear n0_ n1_ n2_ n3_
             (try clear hb)
             (try clear hb2)
             (try clear hk)
             (try clear hi)
             refine hK.out _ _ ⟨(blk_cell BK224.out 0).trans rfl, (blk_cell BK224.out 1).trans rfl, (blk_cell BK224.out 2).trans rfl, (blk_cell BK222.out 0).trans rfl, (blk_cell BK222.out 1).trans rfl, (blk_cell BK222.out 2).trans rfl⟩ (fun hHeld => ?_)
             clear hK K
             refine norm_ (a' := ?_) ?_ ?_
             rotate_left
             ·show Act.put _ (some 32) _ = _
              simp only [Act.put, List.setIfInBounds_toArray, List.set_cons_zero, List.set_cons_succ, i64_w, i32_w]
              rfl
             refine pure_ (i := 3) (N := some 33) (v := ?_) (a' := ?_) #[true, true, true, true, false, false, false, false, false, false, false, false, false, false, false, false, false] rfl rfl (any_of HT_.out (by kernel_rfl)) (fun _ _ _ h => h) (Or.inl ⟨by rfl, ?_⟩) ?_ ?_
             rotate_left
             ·intro w'
              go_simp
              with_reducible rfl
             rotate_left
             ·simp only [Act.put, List.setIfInBounds_toArray, List.set_cons_zero, List.set_cons_succ, i64_w, i32_w]
              rfl
             refine pure_ (i := 4) (N := some 34) (v := undef) (a' := ?_) #[true, true, true, true, true, false, false, false, false, false, false, false, false, false, false, false, false] rfl rfl (any_of HT_.out (by kernel_rfl)) (fun _ _ _ h => h) (Or.inr ⟨by rfl, rfl⟩) ?_ ?_
             rotate_left
             ·simp only [Act.put, List.setIfInBounds_toArray, List.set_cons_zero, List.set_cons_succ, i64_w, i32_w]
              rfl
             refine pure_ (i := 5) (N := some 35) (v := undef) (a' := ?_) #[true, true, true, true, true, true, false, false, false, false, false, false, false, false, false, false, false] rfl rfl (any_of HT_.out (by kernel_rfl)) (fun _ _ _ h => h) (Or.inr ⟨by rfl, rfl⟩) ?_ ?_
             rotate_left
             ·simp only [Act.put, List.setIfInBounds_toArray, List.set_cons_zero, List.set_cons_succ, i64_w, i32_w]
              rfl
             refine pure_ (i := 6) (N := some 36) (v := undef) (a' := ?_) #[true, true, true, true, true, true, true, false, false, false, false, false, false, false, false, false, false] rfl rfl (any_of HT_.out (by kernel_rfl)) (fun _ _ _ h => h) (Or.inr ⟨by rfl, rfl⟩) ?_ ?_
             rotate_left
             ·simp only [Act.put, List.setIfInBounds_toArray, List.set_cons_zero, List.set_cons_succ, i64_w, i32_w]
              rfl
             refine pure_ (i := 7) (N := some 37) (v := undef) (a' := ?_) #[true, true, true, true, true, true, true, true, false, false, false, false, false, false, false, false, false] rfl rfl (any_of HT_.out (by kernel_rfl)) (fun _ _ _ h => h) (Or.inr ⟨by rfl, rfl⟩) ?_ ?_
             rotate_left
             ·simp only [Act.put, List.setIfInBounds_toArray, List.set_cons_zero, List.set_cons_succ, i64_w, i32_w]
              rfl
             refine pure_ (i := 8) (N := some 38) (v := undef) (a' := ?_) #[true, true, true, true, true, true, true, true, true, false, false, false, false, false, false, false, false] rfl rfl (any_of HT_.out (by kernel_rfl)) (fun _ _ _ h => h) (Or.inr ⟨by rfl, rfl⟩) ?_ ?_
             rotate_left
             ·simp only [Act.put, List.setIfInBounds_toArray, List.set_cons_zero, List.set_cons_succ, i64_w, i32_w]
              rfl
             refine pure_ (i := 9) (N := some 39) (v := undef) (a' := ?_) #[true, true, true, true, true, true, true, true, true, true, false, false, false, false, false, false, false] rfl rfl (any_of HT_.out (by kernel_rfl)) (fun _ _ _ h => h) (Or.inr ⟨by rfl, rfl⟩) ?_ ?_
             rotate_left
             ·simp only [Act.put, List.setIfInBounds_toArray, List.set_cons_zero, List.set_cons_succ, i64_w, i32_w]
              rfl
             refine pure_ (i := 10) (N := some 40) (v := undef) (a' := ?_) #[true, true, true, true, true, true, true, true, true, true, true, false, false, false, false, false, false] rfl rfl (any_of HT_.out (by kernel_rfl)) (fun _ _ _ h => h) (Or.inr ⟨by rfl, rfl⟩) ?_ ?_
             rotate_left
             ·simp only [Act.put, List.setIfInBounds_toArray, List.set_cons_zero, List.set_cons_succ, i64_w, i32_w]
              rfl
             refine pure_ (i := 11) (N := some 41) (v := undef) (a' := ?_) #[true, true, true, true, true, true, true, true, true, true, true, true, false, false, false, false, false] rfl rfl (any_of HT_.out (by kernel_rfl)) (fun _ _ _ h => h) (Or.inr ⟨by rfl, rfl⟩) ?_ ?_
             rotate_left
             ·simp only [Act.put, List.setIfInBounds_toArray, List.set_cons_zero, List.set_cons_succ, i64_w, i32_w]
              rfl
             refine pure_ (i := 12) (N := some 42) (v := undef) (a' := ?_) #[true, true, true, true, true, true, true, true, true, true, true, true, true, false, false, false, false] rfl rfl (any_of HT_.out (by kernel_rfl)) (fun _ _ _ h => h) (Or.inr ⟨by rfl, rfl⟩) ?_ ?_
             rotate_left
             ·simp only [Act.put, List.setIfInBounds_toArray, List.set_cons_zero, List.set_cons_succ, i64_w, i32_w]
              rfl
             refine pure_ (i := 13) (N := some 43) (v := undef) (a' := ?_) #[true, true, true, true, true, true, true, true, true, true, true, true, true, true, false, false, false] rfl rfl (any_of HT_.out (by kernel_rfl)) (fun _ _ _ h => h) (Or.inr ⟨by rfl, rfl⟩) ?_ ?_
             rotate_left
             ·simp only [Act.put, List.setIfInBounds_toArray, List.set_cons_zero, List.set_cons_succ, i64_w, i32_w]
              rfl
             refine pure_ (i := 14) (N := some 44) (v := undef) (a' := ?_) #[true, true, true, true, true, true, true, true, true, true, true, true, true, true, true, false, false] rfl rfl (any_of HT_.out (by kernel_rfl)) (fun _ _ _ h => h) (Or.inr ⟨by rfl, rfl⟩) ?_ ?_
             rotate_left
             ·simp only [Act.put, List.setIfInBounds_toArray, List.set_cons_zero, List.set_cons_succ, i64_w, i32_w]
              rfl
             refine pure_ (i := 15) (N := some 45) (v := undef) (a' := ?_) #[true, true, true, true, true, true, true, true, true, true, true, true, true, true, true, true, false] rfl rfl (any_of HT_.out (by kernel_rfl)) (fun _ _ _ h => h) (Or.inr ⟨by rfl, rfl⟩) ?_ ?_
             rotate_left
             ·simp only [Act.put, List.setIfInBounds_toArray, List.set_cons_zero, List.set_cons_succ, i64_w, i32_w]
              rfl
             refine pure_ (i := 16) (N := some 46) (v := ?_) (a' := ?_) #[true, true, true, true, true, true, true, true, true, true, true, true, true, true, true, true, true] rfl rfl (any_of HT_.out (by kernel_rfl)) (fun _ _ _ h => h) (Or.inl ⟨by rfl, ?_⟩) ?_ ?_
             rotate_left
             ·intro w'
              go_simp
              with_reducible rfl
             rotate_left
             ·simp only [Act.put, List.setIfInBounds_toArray, List.set_cons_zero, List.set_cons_succ, i64_w, i32_w]
              rfl
             refine done_ (done_of HT_.out (by kernel_rfl)) ?_
             try go_wp2
             go_roundg k2
             case measure => have := HK1.out; have := HK2.out; omega
             case rel => exact ⟨(x7_2), (wrap64 (x25_2 + 1)), (by first | rfl | (simp; done) | (simp [*]; done)), (by first | rfl | (simp; done) | (simp [*]; done)), H', ⟨by have := HK1.out; have := HK2.out; omega⟩, ⟨by (with_reducible repeat (first | apply Kd.R_alloc | apply Kd.R_drewN | apply Kd.R_drew)); exact HO_4.out⟩, ⟨by (with_reducible repeat (first | refine blk_drewN ?_ _ | refine blk_drew ?_ | refine blk_alloc ?_ _)); exact BK222.out⟩, ⟨by repeat (first | (with_reducible first | exact HB.out | apply below_alloc | apply pw_below_drewN | apply below_drew1 | refine below_set ?_ GE222.out | refine below_set ?_ GE224.out) | exact HB.out)⟩⟩
           ·rw [if_neg c10] at H
            exact absurd H (by simp)
          ·rw [if_neg c9] at H
           exact absurd H (by simp)
         ·rw [if_neg c8] at H
          have c8b0 : decide (x25_2 < (l0.length : Int)) = false := decide_eq_false c8
          clear c8
          by_cases c41 : x4_1.length < 17592186044416
          ·rw [if_pos c41] at H
           have LMc41 := Aside0.mk c41
           clear c41
           obtain ⟨y227, hy227⟩ : ∃ y_ : List Int, y_ = (x4_1 ++ [x7_2]) := ⟨_, rfl⟩
           replace H : (corporaref10_Parents.l0 k2 l0 y227 l0 (l0.length : Int) (wrap64 (x19_1 + 1))) = some (r1, r2) := by first | (rw [hy227]; with_reducible exact H) | (have H2_ := (Option.bind_some _ _).symm.trans H; rw [hy227]; with_reducible exact H2_) | (have H2_ := (Option.bind_some _ _).symm.trans H; with_reducible exact H2_) | with_reducible exact H | (rw [hy227]; exact H) | exact H
           have Ny227 := Aside0.mk hy227
           clear hy227
           have H' := Aside0.mk H
           clear H
           go_wp2_with (first | ((with_reducible refine gate_builtin (b := .append) (xs := #[.tmp 49, .tmp 51]) rfl ?_); at_builtin; refine Kd.R_append (Kd.int .i64) (w0 := w) w.heap.size rfl (.tmp 49) (.tmp 51) 22 3 (.int .i64 0) 8 rfl Try.underlying22 info3 rfl (by decide) (by omega) u4 x4_1 x7_2 [.int .i64 x7_2] (fun _ => True) (fun _ => False) rfl rfl ?aP (fun _ hk => hk.elim) ?aF ?aO ?aB ?aS ?aL ?_; (case aP => exact rfl); (case aB => exact (by repeat (first | (with_reducible first | exact HB.out | apply below_alloc | apply pw_below_drewN | apply below_drew1 | refine below_set ?_ GE222.out) | exact HB.out))); (case aF => exact (fun _ _ => trivial)); (case aO => exact (by (with_reducible repeat (first | apply Kd.R_alloc | apply Kd.R_drewN | apply Kd.R_drew)); exact HO_4.out)); (case aS => exact (below_size (by repeat (first | (with_reducible first | exact HB.out | apply below_alloc | apply pw_below_drewN | apply below_drew1 | refine below_set ?_ GE222.out) | exact HB.out)))); (case aL => have := LMc41.out; omega); intro v228 w42 ho hb hg hat; rw [← Ny227.out] at ho; have n0_ := Aside0.mk (blk_grown (g := gb222) (o := .cells #[.int .i64 ((rd_T43 l0 x19_1).f0), .int .i64 ((rd_T43 l0 x19_1).f1), .int .i64 ((rd_T43 l0 x19_1).f2)] 43 (0, 0)) (by (with_reducible repeat (first | refine blk_drewN ?_ _ | refine blk_drew ?_ | refine blk_alloc ?_ _)); exact BK222.out) hg (Kd.R_ne HO_4.out BK222.out (by decide))); have n1_ := Aside0.mk (hb); have n2_ := Aside0.mk (ho); clear BK222; clear HB; clear HO_4; have BK222 := n0_; have HB := n1_; have HO229 := n2_; clear n0_ n1_ n2_; clear ho hb hg hat))
           go_roundg k2
           case measure => have := HK1.out; have := HK2.out; omega
           case rel => exact ⟨(y227), (wrap64 (x19_1 + 1)), (by first | rfl | (simp; done) | (simp [*]; done)), H', ⟨by have := HK1.out; have := HK2.out; omega⟩, ⟨by (with_reducible repeat (first | apply Kd.R_alloc | apply Kd.R_drewN | apply Kd.R_drew)); exact HO229.out⟩, ⟨by repeat (first | (with_reducible first | exact HB.out | apply below_alloc | apply pw_below_drewN | apply below_drew1 | refine below_set ?_ GE222.out) | exact HB.out)⟩⟩
          ·rw [if_neg c41] at H
           exact absurd H (by simp)
      ·rw [if_neg c5] at H
       exact absurd H (by simp)
     ·rw [if_neg c4] at H
      exact absurd H (by simp)
    ·rw [if_neg c3] at H
     have c3b0 : decide (x19_1 < (l0.length : Int)) = false := decide_eq_false c3
     clear c3
     replace H := Option.bind_eq_some_iff.mp H
     obtain ⟨⟨t230, t231, t232⟩, A430, H⟩ := H
     replace H : (if t232 = 0 then (corporaref10_Parents.l2 k1 l0 x4_1 t230 (l0.length : Int) 0) else (some (([] : List Int), 9))) = some (r1, r2) := H
     have A43 := Aside0.mk A430
     clear A430
     by_cases c44 : t232 = 0
     ·rw [if_pos c44] at H
      have c44b0 : (t232 == 0) = true := beq_iff_eq.mpr c44
      have c44b1 : (t232 != 0) = false := bne_eq_false_iff_eq.mpr c44
      clear c44
      have H' := Aside0.mk H
      clear H
      obtain ⟨Ao45, co45, eo45⟩ := Kd.R_slice HO_4.out
      subst eo45
      go_wp2_with (first | ((with_reducible refine gate_callee (f := 12) rfl ?_); refine goesL_ (some 56) rfl rfl Try.func12 (by kernel_rfl) rfl #[.slice Ao45 x4_1.length co45] rfl (by (try simp only [List.map_toArray, List.map_cons, List.map_nil]); first | done | rfl | (simp only [List.length_drop, List.length_take]; rfl)) ?_; (with_reducible refine (corporaref10_Assign.calls k1 _ _ x4_1 t230 t231 t232 _ ?side1 ?side2 A43.out).mono ?_); (case side1 => repeat (first | exact (Kd.R_reads' HO_4.out).2.2 | (with_reducible refine Kd.C_alloc ?_ _) | (with_reducible refine Kd.C_drewN ?_ _) | (with_reducible refine Kd.C_drew ?_))); (case side2 => exact (Kd.R_reads' HO_4.out).2.1); rintro e w46 ⟨v233, rfl, ho0, hb⟩; refine ⟨_, rfl, ?_⟩; have n0_ := Aside0.mk (Kd.R_below (by (with_reducible repeat (first | apply Kd.R_alloc | apply Kd.R_drewN | apply Kd.R_drew)); exact HO_4.out) hb); have n1_ := Aside0.mk (Kd.R_lower ho0 (below_size (by repeat (first | (with_reducible first | exact HB.out | apply below_alloc | apply pw_below_drewN | apply below_drew1) | exact HB.out)))); have n2_ := Aside0.mk (below_step (by repeat (first | (with_reducible first | exact HB.out | apply below_alloc | apply pw_below_drewN | apply below_drew1) | exact HB.out)) hb); clear HO_4; clear HB; have HO_4 := n0_; have HO234 := n1_; have HB := n2_; clear n0_ n1_ n2_; (try clear hb); (try clear hb2); (try clear hk); (try clear hi); (try clear ho0)))
      go_loopg [64] k1 (fun kq v64 w' => ∃ (x64_2 : Int), v64 = .int .i64 x64_2 ∧ Aside0 (corporaref10_Parents.l2 kq l0 x4_1 t230 (l0.length : Int) x64_2 = some (r1, r2)) ∧ Aside0 (kq ≤ k1) ∧ Aside0 (Kd.R (Kd.int .i64) 3 w' w.heap.size (fun _ => True) (.slice Ao45 x4_1.length co45) x4_1) ∧ Aside0 (Kd.R k43 43 w' w.heap.size (fun _ => True) v233 t230) ∧ Aside0 (Below w.heap.size w w'))
      case atStart => exact ⟨(0), (by first | rfl | (simp; done) | (simp [*]; done)), H', ⟨Nat.le_refl _⟩, ⟨by (with_reducible repeat (first | apply Kd.R_alloc | apply Kd.R_drewN | apply Kd.R_drew)); exact HO_4.out⟩, ⟨by (with_reducible repeat (first | apply Kd.R_alloc | apply Kd.R_drewN | apply Kd.R_drew)); exact HO234.out⟩, ⟨by repeat (first | (with_reducible first | exact HB.out | apply below_alloc | apply pw_below_drewN | apply below_drew1) | exact HB.out)⟩⟩
      case round =>
       clear H'
       try clear c1
       try clear c2
       try clear p2
       try clear q2
       try clear hx2
       try clear c3
       try clear c3b0
       try clear c4
       try clear c5
       try clear p6
       try clear c8
       try clear c8b0
       try clear c9
       try clear c10
       try clear c12
       try clear c20
       try clear c21
       try clear c22
       try clear c22b0
       try clear p22
       try clear q22
       try clear hx22
       try clear c30
       try clear c36
       try clear c41
       try clear c44
       try clear c44b0
       try clear c44b1
       try clear hcz31_0
       try clear hcz31_1
       try clear hcz31_2
       try clear hcz37_0
       try clear hcz37_1
       try clear hcz37_2
       try clear hfz31_0
       try clear hfz31_1
       try clear hfz31_2
       try clear hfz37_0
       try clear hfz37_1
       try clear hfz37_2
       try clear hx223_0
       try clear hx223_1
       try clear hx223_2
       try clear hx226_0
       try clear hx226_1
       try clear hx226_2
       try clear p223
       try clear p226
       try clear q223
       try clear q226
       obtain ⟨x64_2, rfl, HA, HK2, HO_4, HO_10, HB⟩ := hrel
       cases gk with
       | zero => exact absurd HA.out (by simp [corporaref10_Parents.l2])
       | succ k2 =>
        have H := HA.out
        clear HA
        simp only [corporaref10_Parents.l2] at H
        by_cases c47 : x64_2 < (l0.length : Int)
        ·rw [if_pos c47] at H
         have c47b0 : decide (x64_2 < (l0.length : Int)) = true := decide_eq_true c47
         clear c47
         by_cases c48 : 0 ≤ x64_2
         ·rw [if_pos c48] at H
          have c48b0 : decide (0 ≤ x64_2) = true := decide_eq_true c48
          clear c48
          by_cases c49 : x64_2 < (t230.length : Int)
          ·rw [if_pos c49] at H
           have c49b0 : decide (x64_2 < (t230.length : Int)) = true := decide_eq_true c49
           clear c49
           by_cases c50 : x64_2 < (l0.length : Int)
           ·rw [if_pos c50] at H
            have c50b0 : decide (x64_2 < (l0.length : Int)) = true := decide_eq_true c50
            clear c50
            by_cases c51 : (!(((rd_T43 t230 x64_2).f0) == ((rd_T43 l0 x64_2).f0)) || (!(((rd_T43 t230 x64_2).f1) == ((rd_T43 l0 x64_2).f1)) || (!(((rd_T43 t230 x64_2).f2) == ((rd_T43 l0 x64_2).f2))))) = true
            ·rw [if_pos c51] at H
             have c51b0 : (!(((rd_T43 t230 x64_2).f0) == ((rd_T43 l0 x64_2).f0)) || (!(((rd_T43 t230 x64_2).f1) == ((rd_T43 l0 x64_2).f1)) || (!(((rd_T43 t230 x64_2).f2) == ((rd_T43 l0 x64_2).f2))))) = true := c51
             clear c51
             simp only [Option.some.injEq, Prod.mk.injEq] at H
             obtain ⟨rfl, rfl⟩ := H
             try go_wp2
             have n0_ := Aside0.mk (Kd.R_drew HO_4.out)
             have n1_ := Aside0.mk (Kd.R_drew HO_10.out)
             have n2_ := Aside0.mk (below_drew1 HB.out)
             clear HO_4
             clear HO_10
             clear HB
             have HO_4 := n0_
             have HO_10 := n1_
             have HB := n2_
             clear n0_ n1_ n2_
             obtain ⟨Ao53, co53, eo53⟩ := Kd.R_slice HO_10.out
             (first | subst eo53 | (injection eo53 with f1_ f2_ f3_; have f4_ := f1_.symm; have f5_ := f3_.symm; clear f1_ f2_ f3_; subst f4_; subst f5_))
             have p235 : 0 ≤ (x64_2 : Int) := of_decide_eq_true (by first | (with_reducible assumption) | assumption)
             have q235 : x64_2 < (t230.length : Int) := of_decide_eq_true (by first | (with_reducible assumption) | assumption)
             obtain ⟨ad235, e235, hx235_0, hx235_1, hx235_2⟩ := at_T43 (Kd.R_reads' HO_10.out).2.2 x64_2 p235 q235
             cases e235
             replace p235 := eq_true p235
             replace q235 := eq_true q235
             have p236 : 0 ≤ (x64_2 : Int) := of_decide_eq_true (by first | (with_reducible assumption) | assumption)
             have q236 : x64_2 < (l0.length : Int) := of_decide_eq_true (by first | (with_reducible assumption) | assumption)
             obtain ⟨ad236, e236, hx236_0, hx236_1, hx236_2⟩ := at_T43 HR0.out x64_2 p236 q236
             have hw236_2 := hx236_2
             have hw236_1 := hx236_1
             have hw236_0 := hx236_0
             cases e236
             replace hx236_0 := (HB.out.cell (World.block_lt_of_cell? w _ hx236_0)).trans hx236_0
             replace hx236_1 := (HB.out.cell (World.block_lt_of_cell? w _ hx236_1)).trans hx236_1
             replace hx236_2 := (HB.out.cell (World.block_lt_of_cell? w _ hx236_2)).trans hx236_2
             replace p236 := eq_true p236
             replace q236 := eq_true q236
             refine start_ (n := 9) (S := fun w' => w'.cell? (ad235.add ((x64_2).toNat * 3)) = some (.int .i64 ((rd_T43 t230 x64_2).f0)) ∧ w'.cell? ⟨(ad235.add ((x64_2).toNat * 3)).block, (ad235.add ((x64_2).toNat * 3)).off + 1, none⟩ = some (.int .i64 ((rd_T43 t230 x64_2).f1)) ∧ w'.cell? ⟨(ad235.add ((x64_2).toNat * 3)).block, (ad235.add ((x64_2).toNat * 3)).off + 2, none⟩ = some (.int .i64 ((rd_T43 t230 x64_2).f2)) ∧ w'.cell? (ad236.add ((x64_2).toNat * 3)) = some (.int .i64 ((rd_T43 l0 x64_2).f0)) ∧ w'.cell? ⟨(ad236.add ((x64_2).toNat * 3)).block, (ad236.add ((x64_2).toNat * 3)).off + 1, none⟩ = some (.int .i64 ((rd_T43 l0 x64_2).f1)) ∧ w'.cell? ⟨(ad236.add ((x64_2).toNat * 3)).block, (ad236.add ((x64_2).toNat * 3)).off + 2, none⟩ = some (.int .i64 ((rd_T43 l0 x64_2).f2))) (ds := []) #[false, false, false, false, false, false, false, false, false] (by kernel_rfl) rfl rfl ⟨hx235_0, hx235_1, hx235_2, ((HB.out.cell (World.block_lt_of_cell? w _ hw236_0)).trans hw236_0), ((HB.out.cell (World.block_lt_of_cell? w _ hw236_1)).trans hw236_1), ((HB.out.cell (World.block_lt_of_cell? w _ hw236_2)).trans hw236_2)⟩ (fun hHeld => ?_); refine with_tabW corporaref10_Parents.tab22 corporaref10_Parents.bits22 (fun HT_ HW_ => ?_)
             generalize wr.drew = w52 at HO_4 HO_10 HB hx235_0 hx235_1 hx235_2 hx236_0 hx236_1 hx236_2 hHeld ⊢
             refine pure_ (i := 0) (N := some 67) (v := ?_) (a' := ?_) #[true, false, false, false, false, false, false, false, false] rfl rfl (any_of HT_.out (by kernel_rfl)) (fun _ _ _ h => h) (Or.inl ⟨by rfl, ?_⟩) ?_ ?_
             rotate_left
             ·intro w'
              go_simp
              with_reducible rfl
             rotate_left
             ·simp only [Act.put, List.setIfInBounds_toArray, List.set_cons_zero, List.set_cons_succ, i64_w, i32_w]
              rfl
             refine pure_ (i := 1) (N := some 68) (v := ?_) (a' := ?_) #[true, true, false, false, false, false, false, false, false] rfl rfl (any_of HT_.out (by kernel_rfl)) (fun _ _ _ h => h) (Or.inl ⟨by rfl, ?_⟩) ?_ ?_
             rotate_left
             ·intro w'
              go_simp
              with_reducible rfl
             rotate_left
             ·simp only [Act.put, List.setIfInBounds_toArray, List.set_cons_zero, List.set_cons_succ, i64_w, i32_w]
              rfl
             refine pure_ (i := 2) (N := some 69) (v := ?_) (a' := ?_) #[true, true, true, false, false, false, false, false, false] rfl rfl (any_of HT_.out (by kernel_rfl)) (fun _ _ _ h => h) (Or.inl ⟨by rfl, ?_⟩) ?_ ?_
             rotate_left
             ·intro w'
              go_simp
              with_reducible rfl
             rotate_left
             ·simp only [Act.put, List.setIfInBounds_toArray, List.set_cons_zero, List.set_cons_succ, i64_w, i32_w]
              rfl
             refine pure_ (i := 4) (N := some 71) (v := ?_) (a' := ?_) #[true, true, true, false, true, false, false, false, false] rfl rfl (any_of HT_.out (by kernel_rfl)) (fun _ _ _ h => h) (Or.inl ⟨by rfl, ?_⟩) ?_ ?_
             rotate_left
             ·intro w'
              go_simp
              with_reducible rfl
             rotate_left
             ·simp only [Act.put, List.setIfInBounds_toArray, List.set_cons_zero, List.set_cons_succ, i64_w, i32_w]
              rfl
             refine pure_ (i := 5) (N := some 72) (v := ?_) (a' := ?_) #[true, true, true, false, true, true, false, false, false] rfl rfl (any_of HT_.out (by kernel_rfl)) (fun _ _ _ h => h) (Or.inl ⟨by rfl, ?_⟩) ?_ ?_
             rotate_left
             ·intro w'
              go_simp
              with_reducible rfl
             rotate_left
             ·simp only [Act.put, List.setIfInBounds_toArray, List.set_cons_zero, List.set_cons_succ, i64_w, i32_w]
              rfl
             refine pure_ (i := 6) (N := some 73) (v := ?_) (a' := ?_) #[true, true, true, false, true, true, true, false, false] rfl rfl (any_of HT_.out (by kernel_rfl)) (fun _ _ _ h => h) (Or.inl ⟨by rfl, ?_⟩) ?_ ?_
             rotate_left
             ·intro w'
              go_simp
              with_reducible rfl
             rotate_left
             ·simp only [Act.put, List.setIfInBounds_toArray, List.set_cons_zero, List.set_cons_succ, i64_w, i32_w]
              rfl
             refine take_ (i := 3) (N := some 70) (v := ?_) (a' := ?_) #[true, true, true, true, true, true, true, false, false] rfl rfl (take_ofW HT_.out HW_.out (by kernel_rfl)) (fun _ _ _ h => h) (Or.inl ⟨by rfl, ?_⟩) hHeld ?_ ?_
             rotate_left
             ·rintro w' ⟨s0, s1, s2, s3, s4, s5⟩
              go_simp
              with_reducible rfl
             rotate_left
             ·simp only [Act.put, List.setIfInBounds_toArray, List.set_cons_zero, List.set_cons_succ, i64_w, i32_w]
              rfl
             refine take_ (i := 7) (N := some 74) (v := ?_) (a' := ?_) #[true, true, true, true, true, true, true, true, false] rfl rfl (take_ofW HT_.out HW_.out (by kernel_rfl)) (fun _ _ _ h => h) (Or.inl ⟨by rfl, ?_⟩) hHeld ?_ ?_
             rotate_left
             ·rintro w' ⟨s0, s1, s2, s3, s4, s5⟩
              go_simp
              with_reducible rfl
             rotate_left
             ·simp only [Act.put, List.setIfInBounds_toArray, List.set_cons_zero, List.set_cons_succ, i64_w, i32_w]
              rfl
             refine pure_ (i := 8) (N := some 75) (v := ?_) (a' := ?_) #[true, true, true, true, true, true, true, true, true] rfl rfl (any_of HT_.out (by kernel_rfl)) (fun _ _ _ h => h) (Or.inl ⟨by rfl, ?_⟩) ?_ ?_
             rotate_left
             ·intro w'
              go_simp
              with_reducible rfl
             rotate_left
             ·simp only [Act.put, List.setIfInBounds_toArray, List.set_cons_zero, List.set_cons_succ, i64_w, i32_w]
              rfl
             refine done_ (done_of HT_.out (by kernel_rfl)) ?_
             try go_wp2
             go_ret2
             exact ⟨_, by first | rfl | (simp [errW_none, errW_some] <;> rfl) | (simp [*, errW_none, errW_some] <;> rfl), by first | exact Kd.R_nil _ _ _ _ _ | exact Kd.N_nil _ _ _ _ _ | exact Kd.V_nil _ _ _ _ _ | exact Kd.Q_nil _ _ _ _ _ | exact Kd.S_nil _ _ _ _ _, by repeat (first | (with_reducible first | exact HB.out | apply below_alloc | apply pw_below_drewN | apply below_drew1) | exact HB.out)⟩
            ·rw [if_neg c51] at H
             have c51b0 : (!(((rd_T43 t230 x64_2).f0) == ((rd_T43 l0 x64_2).f0)) || (!(((rd_T43 t230 x64_2).f1) == ((rd_T43 l0 x64_2).f1)) || (!(((rd_T43 t230 x64_2).f2) == ((rd_T43 l0 x64_2).f2))))) = false := by simpa using c51
             clear c51
             have H' := Aside0.mk H
             clear H
             try go_wp2
             have n0_ := Aside0.mk (Kd.R_drew HO_4.out)
             have n1_ := Aside0.mk (Kd.R_drew HO_10.out)
             have n2_ := Aside0.mk (below_drew1 HB.out)
             clear HO_4
             clear HO_10
             clear HB
             have HO_4 := n0_
             have HO_10 := n1_
             have HB := n2_
             clear n0_ n1_ n2_
             obtain ⟨Ao55, co55, eo55⟩ := Kd.R_slice HO_10.out
             (first | subst eo55 | (injection eo55 with f1_ f2_ f3_; have f4_ := f1_.symm; have f5_ := f3_.symm; clear f1_ f2_ f3_; subst f4_; subst f5_))
             have p235 : 0 ≤ (x64_2 : Int) := of_decide_eq_true (by first | (with_reducible assumption) | assumption)
             have q235 : x64_2 < (t230.length : Int) := of_decide_eq_true (by first | (with_reducible assumption) | assumption)
             obtain ⟨ad235, e235, hx235_0, hx235_1, hx235_2⟩ := at_T43 (Kd.R_reads' HO_10.out).2.2 x64_2 p235 q235
             cases e235
             replace p235 := eq_true p235
             replace q235 := eq_true q235
             have p236 : 0 ≤ (x64_2 : Int) := of_decide_eq_true (by first | (with_reducible assumption) | assumption)
             have q236 : x64_2 < (l0.length : Int) := of_decide_eq_true (by first | (with_reducible assumption) | assumption)
             obtain ⟨ad236, e236, hx236_0, hx236_1, hx236_2⟩ := at_T43 HR0.out x64_2 p236 q236
             have hw236_2 := hx236_2
             have hw236_1 := hx236_1
             have hw236_0 := hx236_0
             cases e236
             replace hx236_0 := (HB.out.cell (World.block_lt_of_cell? w _ hx236_0)).trans hx236_0
             replace hx236_1 := (HB.out.cell (World.block_lt_of_cell? w _ hx236_1)).trans hx236_1
             replace hx236_2 := (HB.out.cell (World.block_lt_of_cell? w _ hx236_2)).trans hx236_2
             replace p236 := eq_true p236
             replace q236 := eq_true q236
             refine start_ (n := 9) (S := fun w' => w'.cell? (ad235.add ((x64_2).toNat * 3)) = some (.int .i64 ((rd_T43 t230 x64_2).f0)) ∧ w'.cell? ⟨(ad235.add ((x64_2).toNat * 3)).block, (ad235.add ((x64_2).toNat * 3)).off + 1, none⟩ = some (.int .i64 ((rd_T43 t230 x64_2).f1)) ∧ w'.cell? ⟨(ad235.add ((x64_2).toNat * 3)).block, (ad235.add ((x64_2).toNat * 3)).off + 2, none⟩ = some (.int .i64 ((rd_T43 t230 x64_2).f2)) ∧ w'.cell? (ad236.add ((x64_2).toNat * 3)) = some (.int .i64 ((rd_T43 l0 x64_2).f0)) ∧ w'.cell? ⟨(ad236.add ((x64_2).toNat * 3)).block, (ad236.add ((x64_2).toNat * 3)).off + 1, none⟩ = some (.int .i64 ((rd_T43 l0 x64_2).f1)) ∧ w'.cell? ⟨(ad236.add ((x64_2).toNat * 3)).block, (ad236.add ((x64_2).toNat * 3)).off + 2, none⟩ = some (.int .i64 ((rd_T43 l0 x64_2).f2))) (ds := []) #[false, false, false, false, false, false, false, false, false] (by kernel_rfl) rfl rfl ⟨hx235_0, hx235_1, hx235_2, ((HB.out.cell (World.block_lt_of_cell? w _ hw236_0)).trans hw236_0), ((HB.out.cell (World.block_lt_of_cell? w _ hw236_1)).trans hw236_1), ((HB.out.cell (World.block_lt_of_cell? w _ hw236_2)).trans hw236_2)⟩ (fun hHeld => ?_); refine with_tabW corporaref10_Parents.tab22 corporaref10_Parents.bits22 (fun HT_ HW_ => ?_)
             generalize wr.drew = w54 at HO_4 HO_10 HB hx235_0 hx235_1 hx235_2 hx236_0 hx236_1 hx236_2 hHeld ⊢
             refine pure_ (i := 0) (N := some 67) (v := ?_) (a' := ?_) #[true, false, false, false, false, false, false, false, false] rfl rfl (any_of HT_.out (by kernel_rfl)) (fun _ _ _ h => h) (Or.inl ⟨by rfl, ?_⟩) ?_ ?_
             rotate_left
             ·intro w'
              go_simp
              with_reducible rfl
             rotate_left
             ·simp only [Act.put, List.setIfInBounds_toArray, List.set_cons_zero, List.set_cons_succ, i64_w, i32_w]
              rfl
             refine pure_ (i := 1) (N := some 68) (v := ?_) (a' := ?_) #[true, true, false, false, false, false, false, false, false] rfl rfl (any_of HT_.out (by kernel_rfl)) (fun _ _ _ h => h) (Or.inl ⟨by rfl, ?_⟩) ?_ ?_
             rotate_left
             ·intro w'
              go_simp
              with_reducible rfl
             rotate_left
             ·simp only [Act.put, List.setIfInBounds_toArray, List.set_cons_zero, List.set_cons_succ, i64_w, i32_w]
              rfl
             refine pure_ (i := 2) (N := some 69) (v := ?_) (a' := ?_) #[true, true, true, false, false, false, false, false, false] rfl rfl (any_of HT_.out (by kernel_rfl)) (fun _ _ _ h => h) (Or.inl ⟨by rfl, ?_⟩) ?_ ?_
             rotate_left
             ·intro w'
              go_simp
              with_reducible rfl
             rotate_left
             ·simp only [Act.put, List.setIfInBounds_toArray, List.set_cons_zero, List.set_cons_succ, i64_w, i32_w]
              rfl
             refine pure_ (i := 4) (N := some 71) (v := ?_) (a' := ?_) #[true, true, true, false, true, false, false, false, false] rfl rfl (any_of HT_.out (by kernel_rfl)) (fun _ _ _ h => h) (Or.inl ⟨by rfl, ?_⟩) ?_ ?_
             rotate_left
             ·intro w'
              go_simp
              with_reducible rfl
             rotate_left
             ·simp only [Act.put, List.setIfInBounds_toArray, List.set_cons_zero, List.set_cons_succ, i64_w, i32_w]
              rfl
             refine pure_ (i := 5) (N := some 72) (v := ?_) (a' := ?_) #[true, true, true, false, true, true, false, false, false] rfl rfl (any_of HT_.out (by kernel_rfl)) (fun _ _ _ h => h) (Or.inl ⟨by rfl, ?_⟩) ?_ ?_
             rotate_left
             ·intro w'
              go_simp
              with_reducible rfl
             rotate_left
             ·simp only [Act.put, List.setIfInBounds_toArray, List.set_cons_zero, List.set_cons_succ, i64_w, i32_w]
              rfl
             refine pure_ (i := 6) (N := some 73) (v := ?_) (a' := ?_) #[true, true, true, false, true, true, true, false, false] rfl rfl (any_of HT_.out (by kernel_rfl)) (fun _ _ _ h => h) (Or.inl ⟨by rfl, ?_⟩) ?_ ?_
             rotate_left
             ·intro w'
              go_simp
              with_reducible rfl
             rotate_left
             ·simp only [Act.put, List.setIfInBounds_toArray, List.set_cons_zero, List.set_cons_succ, i64_w, i32_w]
              rfl
             refine take_ (i := 3) (N := some 70) (v := ?_) (a' := ?_) #[true, true, true, true, true, true, true, false, false] rfl rfl (take_ofW HT_.out HW_.out (by kernel_rfl)) (fun _ _ _ h => h) (Or.inl ⟨by rfl, ?_⟩) hHeld ?_ ?_
             rotate_left
             ·rintro w' ⟨s0, s1, s2, s3, s4, s5⟩
              go_simp
              with_reducible rfl
             rotate_left
             ·simp only [Act.put, List.setIfInBounds_toArray, List.set_cons_zero, List.set_cons_succ, i64_w, i32_w]
              rfl
             refine take_ (i := 7) (N := some 74) (v := ?_) (a' := ?_) #[true, true, true, true, true, true, true, true, false] rfl rfl (take_ofW HT_.out HW_.out (by kernel_rfl)) (fun _ _ _ h => h) (Or.inl ⟨by rfl, ?_⟩) hHeld ?_ ?_
             rotate_left
             ·rintro w' ⟨s0, s1, s2, s3, s4, s5⟩
              go_simp
              with_reducible rfl
             rotate_left
             ·simp only [Act.put, List.setIfInBounds_toArray, List.set_cons_zero, List.set_cons_succ, i64_w, i32_w]
              rfl
             refine pure_ (i := 8) (N := some 75) (v := ?_) (a' := ?_) #[true, true, true, true, true, true, true, true, true] rfl rfl (any_of HT_.out (by kernel_rfl)) (fun _ _ _ h => h) (Or.inl ⟨by rfl, ?_⟩) ?_ ?_
             rotate_left
             ·intro w'
              go_simp
              with_reducible rfl
             rotate_left
             ·simp only [Act.put, List.setIfInBounds_toArray, List.set_cons_zero, List.set_cons_succ, i64_w, i32_w]
              rfl
             refine done_ (done_of HT_.out (by kernel_rfl)) ?_
             try go_wp2
             go_roundg k2
             case measure => have := HK1.out; have := HK2.out; omega
             case rel => exact ⟨(wrap64 (x64_2 + 1)), (by first | rfl | (simp; done) | (simp [*]; done)), H', ⟨by have := HK1.out; have := HK2.out; omega⟩, ⟨by (with_reducible repeat (first | apply Kd.R_alloc | apply Kd.R_drewN | apply Kd.R_drew)); exact HO_4.out⟩, ⟨by (with_reducible repeat (first | apply Kd.R_alloc | apply Kd.R_drewN | apply Kd.R_drew)); exact HO_10.out⟩, ⟨by repeat (first | (with_reducible first | exact HB.out | apply below_alloc | apply pw_below_drewN | apply below_drew1) | exact HB.out)⟩⟩
           ·rw [if_neg c50] at H
            exact absurd H (by simp)
          ·rw [if_neg c49] at H
           exact absurd H (by simp)
         ·rw [if_neg c48] at H
          exact absurd H (by simp)
        ·rw [if_neg c47] at H
         have c47b0 : decide (x64_2 < (l0.length : Int)) = false := decide_eq_false c47
         clear c47
         simp only [Option.some.injEq, Prod.mk.injEq] at H
         obtain ⟨rfl, rfl⟩ := H
         go_wp2
         go_ret2
         exact ⟨_, by first | rfl | (simp [errW_none, errW_some] <;> rfl) | (simp [*, errW_none, errW_some] <;> rfl), by (with_reducible repeat (first | apply Kd.R_alloc | apply Kd.R_drewN | apply Kd.R_drew)); exact HO_4.out, by repeat (first | (with_reducible first | exact HB.out | apply below_alloc | apply pw_below_drewN | apply below_drew1) | exact HB.out)⟩
     ·rw [if_neg c44] at H
      have c44b0 : (t232 == 0) = false := beq_eq_false_iff_ne.mpr c44
      have c44b1 : (t232 != 0) = true := bne_iff_ne.mpr c44
      simp only [Option.some.injEq, Prod.mk.injEq] at H
      obtain ⟨rfl, rfl⟩ := H
      obtain ⟨Ao56, co56, eo56⟩ := Kd.R_slice HO_4.out
      subst eo56
      go_wp2_with (first | ((with_reducible refine gate_callee (f := 12) rfl ?_); refine goesL_ (some 56) rfl rfl Try.func12 (by kernel_rfl) rfl #[.slice Ao56 x4_1.length co56] rfl (by (try simp only [List.map_toArray, List.map_cons, List.map_nil]); first | done | rfl | (simp only [List.length_drop, List.length_take]; rfl)) ?_; (with_reducible refine (corporaref10_Assign.calls k1 _ _ x4_1 t230 t231 t232 _ ?side1 ?side2 A43.out).mono ?_); (case side1 => repeat (first | exact (Kd.R_reads' HO_4.out).2.2 | (with_reducible refine Kd.C_alloc ?_ _) | (with_reducible refine Kd.C_drewN ?_ _) | (with_reducible refine Kd.C_drew ?_))); (case side2 => exact (Kd.R_reads' HO_4.out).2.1); rintro e w57 ⟨v233, rfl, ho0, hb⟩; refine ⟨_, rfl, ?_⟩; have n0_ := Aside0.mk (Kd.R_below (by (with_reducible repeat (first | apply Kd.R_alloc | apply Kd.R_drewN | apply Kd.R_drew)); exact HO_4.out) hb); have n1_ := Aside0.mk (Kd.R_lower ho0 (below_size (by repeat (first | (with_reducible first | exact HB.out | apply below_alloc | apply pw_below_drewN | apply below_drew1) | exact HB.out)))); have n2_ := Aside0.mk (below_step (by repeat (first | (with_reducible first | exact HB.out | apply below_alloc | apply pw_below_drewN | apply below_drew1) | exact HB.out)) hb); clear HO_4; clear HB; have HO_4 := n0_; have HO234 := n1_; have HB := n2_; clear n0_ n1_ n2_; (try clear hb); (try clear hb2); (try clear hk); (try clear hi); (try clear ho0)))
      go_ret2
      exact ⟨_, by first | rfl | (simp [errW_none, errW_some] <;> rfl) | (simp [*, errW_none, errW_some] <;> rfl), by first | exact Kd.R_nil _ _ _ _ _ | exact Kd.N_nil _ _ _ _ _ | exact Kd.V_nil _ _ _ _ _ | exact Kd.Q_nil _ _ _ _ _ | exact Kd.S_nil _ _ _ _ _, by repeat (first | (with_reducible first | exact HB.out | apply below_alloc | apply pw_below_drewN | apply below_drew1) | exact HB.out)⟩

end Go.Proofs.Ythjcmodhleoocaa.Q
/- FCorporaref10Sisters -/
namespace Go.Proofs.Ythjcmodhleoocaa.Q
open Go.RowKit Go.Proofs.YthjcmodhleoocaaW.PrintWords Go.Proofs.YthjcmodhleoocaaW.PrintLast Go.Proofs.YthjcmodhleoocaaW.PrintMore
attribute [local go_sem] max2_int min2_int max_two min_two max_three min_three max_four min_four   -- for this text's walks alone
set_option linter.unusedVariables false
set_option linter.unusedSimpArgs false

/-! ### corporaref10_Sisters: function 25 -/
def corporaref10_Sisters.f (k : Nat) (l0 : List (S43)) (a1 : Int) (a2 : Int) : Option (Bool) := (corporaref10_Parents.f k l0).bind fun bt322 => (if bt322.2 = 0 then (if a1 ≥ 0 then (if a1 < (bt322.1.length : Int) then (if a2 ≥ 0 then (if a2 < (bt322.1.length : Int) then (if a1 = a2 then (some false) else (if 0 ≤ a1 then (if 0 ≤ a2 then (some ((rd bt322.1 a1) == (rd bt322.1 a2))) else (none)) else (none))) else (some false)) else (some false)) else (some false)) else (some false)) else (some false))
theorem corporaref10_Sisters.mono : ∀ a0 a1 a2 k, LeO (corporaref10_Sisters.f k a0 a1 a2) (corporaref10_Sisters.f (k + 1) a0 a1 a2) := by
 intro a0 a1 a2 k
 unfold corporaref10_Sisters.f
 repeat' first
   | (with_reducible exact corporaref10_Parents.mono _ _)
   | (with_reducible exact LeO.refl _)
   | (with_reducible exact LeO.none _)
   | (with_reducible refine LeO.ite ?_ ?_)
   | (with_reducible refine LeO.bind ?_ (fun _ => ?_))
   | exact corporaref10_Parents.mono _ _
   | exact LeO.none _
   | refine LeO.ite ?_ ?_
   | refine LeO.bind ?_ (fun _ => ?_)
set_option maxHeartbeats 8000000 in
set_option maxRecDepth 100000 in
theorem corporaref10_Sisters.calls (k : Nat) (A0 : Option Addr) (c0 : Nat) (l0 : List (S43)) (a1 : Int) (a2 : Int) (r : Bool) (w : World) (hr0 : Kd.C k43 w A0 l0.length l0) (hc0 : l0.length ≤ c0) (h : corporaref10_Sisters.f k l0 a1 a2 = some r) :
  Calls Try.prog 25 #[.slice A0 l0.length c0, .int .i64 a1, .int .i64 a2] w fun e w' => e = .returned (.bool r) ∧ Below w.heap.size w w' := by
 have HR0 := Aside0.mk hr0
 have HC0 := Aside0.mk hc0
 clear hr0 hc0
 have HB := Aside0.mk (Below.refl w.heap.size w)
 have H : ((corporaref10_Parents.f k l0).bind fun bt322 => (if bt322.2 = 0 then (if a1 ≥ 0 then (if a1 < (bt322.1.length : Int) then (if a2 ≥ 0 then (if a2 < (bt322.1.length : Int) then (if a1 = a2 then (some false) else (if 0 ≤ a1 then (if 0 ≤ a2 then (some ((rd bt322.1 a1) == (rd bt322.1 a2))) else (none)) else (none))) else (some false)) else (some false)) else (some false)) else (some false)) else (some false))) = some r := h
 clear h
 replace H := Option.bind_eq_some_iff.mp H
 obtain ⟨⟨t322, t323⟩, A40, H⟩ := H
 replace H : (if t323 = 0 then (if a1 ≥ 0 then (if a1 < (t322.length : Int) then (if a2 ≥ 0 then (if a2 < (t322.length : Int) then (if a1 = a2 then (some false) else (if 0 ≤ a1 then (if 0 ≤ a2 then (some ((rd t322 a1) == (rd t322 a2))) else (none)) else (none))) else (some false)) else (some false)) else (some false)) else (some false)) else (some false)) = some r := H
 have A4 := Aside0.mk A40
 clear A40
 by_cases c5 : t323 = 0
 ·rw [if_pos c5] at H
  have c5b0 : (t323 == 0) = true := beq_iff_eq.mpr c5
  have c5b1 : (t323 != 0) = false := bne_eq_false_iff_eq.mpr c5
  clear c5
  by_cases c6 : a1 ≥ 0
  ·rw [if_pos c6] at H
   have c6b0 : decide (0 ≤ a1) = true := decide_eq_true c6
   clear c6
   by_cases c7 : a1 < (t322.length : Int)
   ·rw [if_pos c7] at H
    have c7b0 : decide (a1 < (t322.length : Int)) = true := decide_eq_true c7
    clear c7
    by_cases c8 : a2 ≥ 0
    ·rw [if_pos c8] at H
     have c8b0 : decide (0 ≤ a2) = true := decide_eq_true c8
     clear c8
     by_cases c9 : a2 < (t322.length : Int)
     ·rw [if_pos c9] at H
      have c9b0 : decide (a2 < (t322.length : Int)) = true := decide_eq_true c9
      clear c9
      by_cases c10 : a1 = a2
      ·rw [if_pos c10] at H
       have c10b0 : (a1 == a2) = true := beq_iff_eq.mpr c10
       have c10b1 : (a1 != a2) = false := bne_eq_false_iff_eq.mpr c10
       clear c10
       obtain rfl := Option.some.inj H
       go_enter Try.func25, Try.ntmps25
       go_wp2_with (first | (go_at_call 16; (with_reducible refine (corporaref10_Parents.calls k _ _ l0 t322 t323 _ ?side1 ?side2 A4.out).mono ?_); (case side1 => repeat (first | exact HR0.out | (with_reducible refine Kd.C_alloc ?_ _) | (with_reducible refine Kd.C_drewN ?_ _) | (with_reducible refine Kd.C_drew ?_))); (case side2 => exact HC0.out); rintro e w11 ⟨v324, rfl, ho0, hb⟩; have n0_ := Aside0.mk (Kd.R_lower ho0 (below_size (by repeat (first | (with_reducible first | exact HB.out | apply below_alloc | apply pw_below_drewN | apply below_drew1) | exact HB.out)))); have n1_ := Aside0.mk (below_step (by repeat (first | (with_reducible first | exact HB.out | apply below_alloc | apply pw_below_drewN | apply below_drew1) | exact HB.out)) hb); clear HB; have HO325 := n0_; have HB := n1_; clear n0_ n1_; (try clear hb); (try clear hb2); (try clear hk); (try clear hi); (try clear ho0); obtain ⟨Ao12, co12, eo12⟩ := Kd.R_slice HO325.out; subst eo12))
       repeat (go_quiet (first | (go_at_call 16; (with_reducible refine (corporaref10_Parents.calls k _ _ l0 t322 t323 _ ?side1 ?side2 A4.out).mono ?_); (case side1 => repeat (first | exact HR0.out | (with_reducible refine Kd.C_alloc ?_ _) | (with_reducible refine Kd.C_drewN ?_ _) | (with_reducible refine Kd.C_drew ?_))); (case side2 => exact HC0.out); rintro e w11 ⟨v324, rfl, ho0, hb⟩; have n0_ := Aside0.mk (Kd.R_lower ho0 (below_size (by repeat (first | (with_reducible first | exact HB.out | apply below_alloc | apply pw_below_drewN | apply below_drew1) | exact HB.out)))); have n1_ := Aside0.mk (below_step (by repeat (first | (with_reducible first | exact HB.out | apply below_alloc | apply pw_below_drewN | apply below_drew1) | exact HB.out)) hb); clear HB; have HO325 := n0_; have HB := n1_; clear n0_ n1_; (try clear hb); (try clear hb2); (try clear hk); (try clear hi); (try clear ho0); obtain ⟨Ao12, co12, eo12⟩ := Kd.R_slice HO325.out; subst eo12)); try go_wp2_with (first | (go_at_call 16; (with_reducible refine (corporaref10_Parents.calls k _ _ l0 t322 t323 _ ?side1 ?side2 A4.out).mono ?_); (case side1 => repeat (first | exact HR0.out | (with_reducible refine Kd.C_alloc ?_ _) | (with_reducible refine Kd.C_drewN ?_ _) | (with_reducible refine Kd.C_drew ?_))); (case side2 => exact HC0.out); rintro e w11 ⟨v324, rfl, ho0, hb⟩; have n0_ := Aside0.mk (Kd.R_lower ho0 (below_size (by repeat (first | (with_reducible first | exact HB.out | apply below_alloc | apply pw_below_drewN | apply below_drew1) | exact HB.out)))); have n1_ := Aside0.mk (below_step (by repeat (first | (with_reducible first | exact HB.out | apply below_alloc | apply pw_below_drewN | apply below_drew1) | exact HB.out)) hb); clear HB; have HO325 := n0_; have HB := n1_; clear n0_ n1_; (try clear hb); (try clear hb2); (try clear hk); (try clear hi); (try clear ho0); obtain ⟨Ao12, co12, eo12⟩ := Kd.R_slice HO325.out; subst eo12)))
       go_ret
       exact ⟨by first | rfl | (simp [errW_none, errW_some] <;> rfl) | (simp [*, errW_none, errW_some] <;> rfl), by repeat (first | (with_reducible first | exact HB.out | apply below_alloc | apply pw_below_drewN | apply below_drew1) | exact HB.out)⟩
      ·rw [if_neg c10] at H
       have c10b0 : (a1 == a2) = false := beq_eq_false_iff_ne.mpr c10
       have c10b1 : (a1 != a2) = true := bne_iff_ne.mpr c10
       by_cases c13 : 0 ≤ a1
       ·rw [if_pos c13] at H
        have c13b0 : decide (0 ≤ a1) = true := decide_eq_true c13
        clear c13
        by_cases c14 : 0 ≤ a2
        ·rw [if_pos c14] at H
         have c14b0 : decide (0 ≤ a2) = true := decide_eq_true c14
         clear c14
         obtain rfl := Option.some.inj H
         go_enter Try.func25, Try.ntmps25
         go_wp2_with (first | (go_at_call 16; (with_reducible refine (corporaref10_Parents.calls k _ _ l0 t322 t323 _ ?side1 ?side2 A4.out).mono ?_); (case side1 => repeat (first | exact HR0.out | (with_reducible refine Kd.C_alloc ?_ _) | (with_reducible refine Kd.C_drewN ?_ _) | (with_reducible refine Kd.C_drew ?_))); (case side2 => exact HC0.out); rintro e w15 ⟨v324, rfl, ho0, hb⟩; have n0_ := Aside0.mk (Kd.R_lower ho0 (below_size (by repeat (first | (with_reducible first | exact HB.out | apply below_alloc | apply pw_below_drewN | apply below_drew1) | exact HB.out)))); have n1_ := Aside0.mk (below_step (by repeat (first | (with_reducible first | exact HB.out | apply below_alloc | apply pw_below_drewN | apply below_drew1) | exact HB.out)) hb); clear HB; have HO325 := n0_; have HB := n1_; clear n0_ n1_; (try clear hb); (try clear hb2); (try clear hk); (try clear hi); (try clear ho0); obtain ⟨Ao16, co16, eo16⟩ := Kd.R_slice HO325.out; subst eo16; have p326 : 0 ≤ (a1 : Int) := of_decide_eq_true (by first | (with_reducible assumption) | assumption); have q326 : a1 < (t322.length : Int) := of_decide_eq_true (by first | (with_reducible assumption) | assumption); obtain ⟨ad326, e326, hx326_0⟩ := Kd.at_int (Kd.R_reads' HO325.out).2.2 a1 p326 q326; cases e326; replace p326 := eq_true p326; replace q326 := eq_true q326; have p327 : 0 ≤ (a2 : Int) := of_decide_eq_true (by first | (with_reducible assumption) | assumption); have q327 : a2 < (t322.length : Int) := of_decide_eq_true (by first | (with_reducible assumption) | assumption); obtain ⟨ad327, e327, hx327_0⟩ := Kd.at_int (Kd.R_reads' HO325.out).2.2 a2 p327 q327; obtain rfl : ad326 = ad327 := (by injection e327); replace p327 := eq_true p327; replace q327 := eq_true q327))
         repeat (go_quiet (first | (go_at_call 16; (with_reducible refine (corporaref10_Parents.calls k _ _ l0 t322 t323 _ ?side1 ?side2 A4.out).mono ?_); (case side1 => repeat (first | exact HR0.out | (with_reducible refine Kd.C_alloc ?_ _) | (with_reducible refine Kd.C_drewN ?_ _) | (with_reducible refine Kd.C_drew ?_))); (case side2 => exact HC0.out); rintro e w15 ⟨v324, rfl, ho0, hb⟩; have n0_ := Aside0.mk (Kd.R_lower ho0 (below_size (by repeat (first | (with_reducible first | exact HB.out | apply below_alloc | apply pw_below_drewN | apply below_drew1) | exact HB.out)))); have n1_ := Aside0.mk (below_step (by repeat (first | (with_reducible first | exact HB.out | apply below_alloc | apply pw_below_drewN | apply below_drew1) | exact HB.out)) hb); clear HB; have HO325 := n0_; have HB := n1_; clear n0_ n1_; (try clear hb); (try clear hb2); (try clear hk); (try clear hi); (try clear ho0); obtain ⟨Ao16, co16, eo16⟩ := Kd.R_slice HO325.out; subst eo16; have p326 : 0 ≤ (a1 : Int) := of_decide_eq_true (by first | (with_reducible assumption) | assumption); have q326 : a1 < (t322.length : Int) := of_decide_eq_true (by first | (with_reducible assumption) | assumption); obtain ⟨ad326, e326, hx326_0⟩ := Kd.at_int (Kd.R_reads' HO325.out).2.2 a1 p326 q326; cases e326; replace p326 := eq_true p326; replace q326 := eq_true q326; have p327 : 0 ≤ (a2 : Int) := of_decide_eq_true (by first | (with_reducible assumption) | assumption); have q327 : a2 < (t322.length : Int) := of_decide_eq_true (by first | (with_reducible assumption) | assumption); obtain ⟨ad327, e327, hx327_0⟩ := Kd.at_int (Kd.R_reads' HO325.out).2.2 a2 p327 q327; obtain rfl : ad326 = ad327 := (by injection e327); replace p327 := eq_true p327; replace q327 := eq_true q327)); try go_wp2_with (first | (go_at_call 16; (with_reducible refine (corporaref10_Parents.calls k _ _ l0 t322 t323 _ ?side1 ?side2 A4.out).mono ?_); (case side1 => repeat (first | exact HR0.out | (with_reducible refine Kd.C_alloc ?_ _) | (with_reducible refine Kd.C_drewN ?_ _) | (with_reducible refine Kd.C_drew ?_))); (case side2 => exact HC0.out); rintro e w15 ⟨v324, rfl, ho0, hb⟩; have n0_ := Aside0.mk (Kd.R_lower ho0 (below_size (by repeat (first | (with_reducible first | exact HB.out | apply below_alloc | apply pw_below_drewN | apply below_drew1) | exact HB.out)))); have n1_ := Aside0.mk (below_step (by repeat (first | (with_reducible first | exact HB.out | apply below_alloc | apply pw_below_drewN | apply below_drew1) | exact HB.out)) hb); clear HB; have HO325 := n0_; have HB := n1_; clear n0_ n1_; (try clear hb); (try clear hb2); (try clear hk); (try clear hi); (try clear ho0); obtain ⟨Ao16, co16, eo16⟩ := Kd.R_slice HO325.out; subst eo16; have p326 : 0 ≤ (a1 : Int) := of_decide_eq_true (by first | (with_reducible assumption) | assumption); have q326 : a1 < (t322.length : Int) := of_decide_eq_true (by first | (with_reducible assumption) | assumption); obtain ⟨ad326, e326, hx326_0⟩ := Kd.at_int (Kd.R_reads' HO325.out).2.2 a1 p326 q326; cases e326; replace p326 := eq_true p326; replace q326 := eq_true q326; have p327 : 0 ≤ (a2 : Int) := of_decide_eq_true (by first | (with_reducible assumption) | assumption); have q327 : a2 < (t322.length : Int) := of_decide_eq_true (by first | (with_reducible assumption) | assumption); obtain ⟨ad327, e327, hx327_0⟩ := Kd.at_int (Kd.R_reads' HO325.out).2.2 a2 p327 q327; obtain rfl : ad326 = ad327 := (by injection e327); replace p327 := eq_true p327; replace q327 := eq_true q327)))
         go_ret
         exact ⟨by first | rfl | (simp [errW_none, errW_some] <;> rfl) | (simp [*, errW_none, errW_some] <;> rfl), by repeat (first | (with_reducible first | exact HB.out | apply below_alloc | apply pw_below_drewN | apply below_drew1) | exact HB.out)⟩
        ·rw [if_neg c14] at H
         exact absurd H (by simp)
       ·rw [if_neg c13] at H
        exact absurd H (by simp)
     ·rw [if_neg c9] at H
      have c9b0 : decide (a2 < (t322.length : Int)) = false := decide_eq_false c9
      clear c9
      obtain rfl := Option.some.inj H
      go_enter Try.func25, Try.ntmps25
      go_wp2_with (first | (go_at_call 16; (with_reducible refine (corporaref10_Parents.calls k _ _ l0 t322 t323 _ ?side1 ?side2 A4.out).mono ?_); (case side1 => repeat (first | exact HR0.out | (with_reducible refine Kd.C_alloc ?_ _) | (with_reducible refine Kd.C_drewN ?_ _) | (with_reducible refine Kd.C_drew ?_))); (case side2 => exact HC0.out); rintro e w17 ⟨v324, rfl, ho0, hb⟩; have n0_ := Aside0.mk (Kd.R_lower ho0 (below_size (by repeat (first | (with_reducible first | exact HB.out | apply below_alloc | apply pw_below_drewN | apply below_drew1) | exact HB.out)))); have n1_ := Aside0.mk (below_step (by repeat (first | (with_reducible first | exact HB.out | apply below_alloc | apply pw_below_drewN | apply below_drew1) | exact HB.out)) hb); clear HB; have HO325 := n0_; have HB := n1_; clear n0_ n1_; (try clear hb); (try clear hb2); (try clear hk); (try clear hi); (try clear ho0); obtain ⟨Ao18, co18, eo18⟩ := Kd.R_slice HO325.out; subst eo18))
      repeat (go_quiet (first | (go_at_call 16; (with_reducible refine (corporaref10_Parents.calls k _ _ l0 t322 t323 _ ?side1 ?side2 A4.out).mono ?_); (case side1 => repeat (first | exact HR0.out | (with_reducible refine Kd.C_alloc ?_ _) | (with_reducible refine Kd.C_drewN ?_ _) | (with_reducible refine Kd.C_drew ?_))); (case side2 => exact HC0.out); rintro e w17 ⟨v324, rfl, ho0, hb⟩; have n0_ := Aside0.mk (Kd.R_lower ho0 (below_size (by repeat (first | (with_reducible first | exact HB.out | apply below_alloc | apply pw_below_drewN | apply below_drew1) | exact HB.out)))); have n1_ := Aside0.mk (below_step (by repeat (first | (with_reducible first | exact HB.out | apply below_alloc | apply pw_below_drewN | apply below_drew1) | exact HB.out)) hb); clear HB; have HO325 := n0_; have HB := n1_; clear n0_ n1_; (try clear hb); (try clear hb2); (try clear hk); (try clear hi); (try clear ho0); obtain ⟨Ao18, co18, eo18⟩ := Kd.R_slice HO325.out; subst eo18)); try go_wp2_with (first | (go_at_call 16; (with_reducible refine (corporaref10_Parents.calls k _ _ l0 t322 t323 _ ?side1 ?side2 A4.out).mono ?_); (case side1 => repeat (first | exact HR0.out | (with_reducible refine Kd.C_alloc ?_ _) | (with_reducible refine Kd.C_drewN ?_ _) | (with_reducible refine Kd.C_drew ?_))); (case side2 => exact HC0.out); rintro e w17 ⟨v324, rfl, ho0, hb⟩; have n0_ := Aside0.mk (Kd.R_lower ho0 (below_size (by repeat (first | (with_reducible first | exact HB.out | apply below_alloc | apply pw_below_drewN | apply below_drew1) | exact HB.out)))); have n1_ := Aside0.mk (below_step (by repeat (first | (with_reducible first | exact HB.out | apply below_alloc | apply pw_below_drewN | apply below_drew1) | exact HB.out)) hb); clear HB; have HO325 := n0_; have HB := n1_; clear n0_ n1_; (try clear hb); (try clear hb2); (try clear hk); (try clear hi); (try clear ho0); obtain ⟨Ao18, co18, eo18⟩ := Kd.R_slice HO325.out; subst eo18)))
      go_ret
      exact ⟨by first | rfl | (simp [errW_none, errW_some] <;> rfl) | (simp [*, errW_none, errW_some] <;> rfl), by repeat (first | (with_reducible first | exact HB.out | apply below_alloc | apply pw_below_drewN | apply below_drew1) | exact HB.out)⟩
    ·rw [if_neg c8] at H
     have c8b0 : decide (0 ≤ a2) = false := decide_eq_false c8
     clear c8
     obtain rfl := Option.some.inj H
     go_enter Try.func25, Try.ntmps25
     go_wp2_with (first | (go_at_call 16; (with_reducible refine (corporaref10_Parents.calls k _ _ l0 t322 t323 _ ?side1 ?side2 A4.out).mono ?_); (case side1 => repeat (first | exact HR0.out | (with_reducible refine Kd.C_alloc ?_ _) | (with_reducible refine Kd.C_drewN ?_ _) | (with_reducible refine Kd.C_drew ?_))); (case side2 => exact HC0.out); rintro e w19 ⟨v324, rfl, ho0, hb⟩; have n0_ := Aside0.mk (Kd.R_lower ho0 (below_size (by repeat (first | (with_reducible first | exact HB.out | apply below_alloc | apply pw_below_drewN | apply below_drew1) | exact HB.out)))); have n1_ := Aside0.mk (below_step (by repeat (first | (with_reducible first | exact HB.out | apply below_alloc | apply pw_below_drewN | apply below_drew1) | exact HB.out)) hb); clear HB; have HO325 := n0_; have HB := n1_; clear n0_ n1_; (try clear hb); (try clear hb2); (try clear hk); (try clear hi); (try clear ho0); obtain ⟨Ao20, co20, eo20⟩ := Kd.R_slice HO325.out; subst eo20))
     repeat (go_quiet (first | (go_at_call 16; (with_reducible refine (corporaref10_Parents.calls k _ _ l0 t322 t323 _ ?side1 ?side2 A4.out).mono ?_); (case side1 => repeat (first | exact HR0.out | (with_reducible refine Kd.C_alloc ?_ _) | (with_reducible refine Kd.C_drewN ?_ _) | (with_reducible refine Kd.C_drew ?_))); (case side2 => exact HC0.out); rintro e w19 ⟨v324, rfl, ho0, hb⟩; have n0_ := Aside0.mk (Kd.R_lower ho0 (below_size (by repeat (first | (with_reducible first | exact HB.out | apply below_alloc | apply pw_below_drewN | apply below_drew1) | exact HB.out)))); have n1_ := Aside0.mk (below_step (by repeat (first | (with_reducible first | exact HB.out | apply below_alloc | apply pw_below_drewN | apply below_drew1) | exact HB.out)) hb); clear HB; have HO325 := n0_; have HB := n1_; clear n0_ n1_; (try clear hb); (try clear hb2); (try clear hk); (try clear hi); (try clear ho0); obtain ⟨Ao20, co20, eo20⟩ := Kd.R_slice HO325.out; subst eo20)); try go_wp2_with (first | (go_at_call 16; (with_reducible refine (corporaref10_Parents.calls k _ _ l0 t322 t323 _ ?side1 ?side2 A4.out).mono ?_); (case side1 => repeat (first | exact HR0.out | (with_reducible refine Kd.C_alloc ?_ _) | (with_reducible refine Kd.C_drewN ?_ _) | (with_reducible refine Kd.C_drew ?_))); (case side2 => exact HC0.out); rintro e w19 ⟨v324, rfl, ho0, hb⟩; have n0_ := Aside0.mk (Kd.R_lower ho0 (below_size (by repeat (first | (with_reducible first | exact HB.out | apply below_alloc | apply pw_below_drewN | apply below_drew1) | exact HB.out)))); have n1_ := Aside0.mk (below_step (by repeat (first | (with_reducible first | exact HB.out | apply below_alloc | apply pw_below_drewN | apply below_drew1) | exact HB.out)) hb); clear HB; have HO325 := n0_; have HB := n1_; clear n0_ n1_; (try clear hb); (try clear hb2); (try clear hk); (try clear hi); (try clear ho0); obtain ⟨Ao20, co20, eo20⟩ := Kd.R_slice HO325.out; subst eo20)))
     go_ret
     exact ⟨by first | rfl | (simp [errW_none, errW_some] <;> rfl) | (simp [*, errW_none, errW_some] <;> rfl), by repeat (first | (with_reducible first | exact HB.out | apply below_alloc | apply pw_below_drewN | apply below_drew1) | exact HB.out)⟩
   ·rw [if_neg c7] at H
    have c7b0 : decide (a1 < (t322.length : Int)) = false := decide_eq_false c7
    clear c7
    obtain rfl := Option.some.inj H
    go_enter Try.func25, Try.ntmps25
    go_wp2_with (first | (go_at_call 16; (with_reducible refine (corporaref10_Parents.calls k _ _ l0 t322 t323 _ ?side1 ?side2 A4.out).mono ?_); (case side1 => repeat (first | exact HR0.out | (with_reducible refine Kd.C_alloc ?_ _) | (with_reducible refine Kd.C_drewN ?_ _) | (with_reducible refine Kd.C_drew ?_))); (case side2 => exact HC0.out); rintro e w21 ⟨v324, rfl, ho0, hb⟩; have n0_ := Aside0.mk (Kd.R_lower ho0 (below_size (by repeat (first | (with_reducible first | exact HB.out | apply below_alloc | apply pw_below_drewN | apply below_drew1) | exact HB.out)))); have n1_ := Aside0.mk (below_step (by repeat (first | (with_reducible first | exact HB.out | apply below_alloc | apply pw_below_drewN | apply below_drew1) | exact HB.out)) hb); clear HB; have HO325 := n0_; have HB := n1_; clear n0_ n1_; (try clear hb); (try clear hb2); (try clear hk); (try clear hi); (try clear ho0); obtain ⟨Ao22, co22, eo22⟩ := Kd.R_slice HO325.out; subst eo22))
    repeat (go_quiet (first | (go_at_call 16; (with_reducible refine (corporaref10_Parents.calls k _ _ l0 t322 t323 _ ?side1 ?side2 A4.out).mono ?_); (case side1 => repeat (first | exact HR0.out | (with_reducible refine Kd.C_alloc ?_ _) | (with_reducible refine Kd.C_drewN ?_ _) | (with_reducible refine Kd.C_drew ?_))); (case side2 => exact HC0.out); rintro e w21 ⟨v324, rfl, ho0, hb⟩; have n0_ := Aside0.mk (Kd.R_lower ho0 (below_size (by repeat (first | (with_reducible first | exact HB.out | apply below_alloc | apply pw_below_drewN | apply below_drew1) | exact HB.out)))); have n1_ := Aside0.mk (below_step (by repeat (first | (with_reducible first | exact HB.out | apply below_alloc | apply pw_below_drewN | apply below_drew1) | exact HB.out)) hb); clear HB; have HO325 := n0_; have HB := n1_; clear n0_ n1_; (try clear hb); (try clear hb2); (try clear hk); (try clear hi); (try clear ho0); obtain ⟨Ao22, co22, eo22⟩ := Kd.R_slice HO325.out; subst eo22)); try go_wp2_with (first | (go_at_call 16; (with_reducible refine (corporaref10_Parents.calls k _ _ l0 t322 t323 _ ?side1 ?side2 A4.out).mono ?_); (case side1 => repeat (first | exact HR0.out | (with_reducible refine Kd.C_alloc ?_ _) | (with_reducible refine Kd.C_drewN ?_ _) | (with_reducible refine Kd.C_drew ?_))); (case side2 => exact HC0.out); rintro e w21 ⟨v324, rfl, ho0, hb⟩; have n0_ := Aside0.mk (Kd.R_lower ho0 (below_size (by repeat (first | (with_reducible first | exact HB.out | apply below_alloc | apply pw_below_drewN | apply below_drew1) | exact HB.out)))); have n1_ := Aside0.mk (below_step (by repeat (first | (with_reducible first | exact HB.out | apply below_alloc | apply pw_below_drewN | apply below_drew1) | exact HB.out)) hb); clear HB; have HO325 := n0_; have HB := n1_; clear n0_ n1_; (try clear hb); (try clear hb2); (try clear hk); (try clear hi); (try clear ho0); obtain ⟨Ao22, co22, eo22⟩ := Kd.R_slice HO325.out; subst eo22)))
    go_ret
    exact ⟨by first | rfl | (simp [errW_none, errW_some] <;> rfl) | (simp [*, errW_none, errW_some] <;> rfl), by repeat (first | (with_reducible first | exact HB.out | apply below_alloc | apply pw_below_drewN | apply below_drew1) | exact HB.out)⟩
  ·rw [if_neg c6] at H
   have c6b0 : decide (0 ≤ a1) = false := decide_eq_false c6
   clear c6
   obtain rfl := Option.some.inj H
   go_enter Try.func25, Try.ntmps25
   go_wp2_with (first | (go_at_call 16; (with_reducible refine (corporaref10_Parents.calls k _ _ l0 t322 t323 _ ?side1 ?side2 A4.out).mono ?_); (case side1 => repeat (first | exact HR0.out | (with_reducible refine Kd.C_alloc ?_ _) | (with_reducible refine Kd.C_drewN ?_ _) | (with_reducible refine Kd.C_drew ?_))); (case side2 => exact HC0.out); rintro e w23 ⟨v324, rfl, ho0, hb⟩; have n0_ := Aside0.mk (Kd.R_lower ho0 (below_size (by repeat (first | (with_reducible first | exact HB.out | apply below_alloc | apply pw_below_drewN | apply below_drew1) | exact HB.out)))); have n1_ := Aside0.mk (below_step (by repeat (first | (with_reducible first | exact HB.out | apply below_alloc | apply pw_below_drewN | apply below_drew1) | exact HB.out)) hb); clear HB; have HO325 := n0_; have HB := n1_; clear n0_ n1_; (try clear hb); (try clear hb2); (try clear hk); (try clear hi); (try clear ho0)))
   repeat (go_quiet (first | (go_at_call 16; (with_reducible refine (corporaref10_Parents.calls k _ _ l0 t322 t323 _ ?side1 ?side2 A4.out).mono ?_); (case side1 => repeat (first | exact HR0.out | (with_reducible refine Kd.C_alloc ?_ _) | (with_reducible refine Kd.C_drewN ?_ _) | (with_reducible refine Kd.C_drew ?_))); (case side2 => exact HC0.out); rintro e w23 ⟨v324, rfl, ho0, hb⟩; have n0_ := Aside0.mk (Kd.R_lower ho0 (below_size (by repeat (first | (with_reducible first | exact HB.out | apply below_alloc | apply pw_below_drewN | apply below_drew1) | exact HB.out)))); have n1_ := Aside0.mk (below_step (by repeat (first | (with_reducible first | exact HB.out | apply below_alloc | apply pw_below_drewN | apply below_drew1) | exact HB.out)) hb); clear HB; have HO325 := n0_; have HB := n1_; clear n0_ n1_; (try clear hb); (try clear hb2); (try clear hk); (try clear hi); (try clear ho0))); try go_wp2_with (first | (go_at_call 16; (with_reducible refine (corporaref10_Parents.calls k _ _ l0 t322 t323 _ ?side1 ?side2 A4.out).mono ?_); (case side1 => repeat (first | exact HR0.out | (with_reducible refine Kd.C_alloc ?_ _) | (with_reducible refine Kd.C_drewN ?_ _) | (with_reducible refine Kd.C_drew ?_))); (case side2 => exact HC0.out); rintro e w23 ⟨v324, rfl, ho0, hb⟩; have n0_ := Aside0.mk (Kd.R_lower ho0 (below_size (by repeat (first | (with_reducible first | exact HB.out | apply below_alloc | apply pw_below_drewN | apply below_drew1) | exact HB.out)))); have n1_ := Aside0.mk (below_step (by repeat (first | (with_reducible first | exact HB.out | apply below_alloc | apply pw_below_drewN | apply below_drew1) | exact HB.out)) hb); clear HB; have HO325 := n0_; have HB := n1_; clear n0_ n1_; (try clear hb); (try clear hb2); (try clear hk); (try clear hi); (try clear ho0))))
   go_ret
   exact ⟨by first | rfl | (simp [errW_none, errW_some] <;> rfl) | (simp [*, errW_none, errW_some] <;> rfl), by repeat (first | (with_reducible first | exact HB.out | apply below_alloc | apply pw_below_drewN | apply below_drew1) | exact HB.out)⟩
 ·rw [if_neg c5] at H
  have c5b0 : (t323 == 0) = false := beq_eq_false_iff_ne.mpr c5
  have c5b1 : (t323 != 0) = true := bne_iff_ne.mpr c5
  obtain rfl := Option.some.inj H
  go_enter Try.func25, Try.ntmps25
  go_wp2_with (first | (go_at_call 16; (with_reducible refine (corporaref10_Parents.calls k _ _ l0 t322 t323 _ ?side1 ?side2 A4.out).mono ?_); (case side1 => repeat (first | exact HR0.out | (with_reducible refine Kd.C_alloc ?_ _) | (with_reducible refine Kd.C_drewN ?_ _) | (with_reducible refine Kd.C_drew ?_))); (case side2 => exact HC0.out); rintro e w24 ⟨v324, rfl, ho0, hb⟩; have n0_ := Aside0.mk (Kd.R_lower ho0 (below_size (by repeat (first | (with_reducible first | exact HB.out | apply below_alloc | apply pw_below_drewN | apply below_drew1) | exact HB.out)))); have n1_ := Aside0.mk (below_step (by repeat (first | (with_reducible first | exact HB.out | apply below_alloc | apply pw_below_drewN | apply below_drew1) | exact HB.out)) hb); clear HB; have HO325 := n0_; have HB := n1_; clear n0_ n1_; (try clear hb); (try clear hb2); (try clear hk); (try clear hi); (try clear ho0)))
  repeat (go_quiet (first | (go_at_call 16; (with_reducible refine (corporaref10_Parents.calls k _ _ l0 t322 t323 _ ?side1 ?side2 A4.out).mono ?_); (case side1 => repeat (first | exact HR0.out | (with_reducible refine Kd.C_alloc ?_ _) | (with_reducible refine Kd.C_drewN ?_ _) | (with_reducible refine Kd.C_drew ?_))); (case side2 => exact HC0.out); rintro e w24 ⟨v324, rfl, ho0, hb⟩; have n0_ := Aside0.mk (Kd.R_lower ho0 (below_size (by repeat (first | (with_reducible first | exact HB.out | apply below_alloc | apply pw_below_drewN | apply below_drew1) | exact HB.out)))); have n1_ := Aside0.mk (below_step (by repeat (first | (with_reducible first | exact HB.out | apply below_alloc | apply pw_below_drewN | apply below_drew1) | exact HB.out)) hb); clear HB; have HO325 := n0_; have HB := n1_; clear n0_ n1_; (try clear hb); (try clear hb2); (try clear hk); (try clear hi); (try clear ho0))); try go_wp2_with (first | (go_at_call 16; (with_reducible refine (corporaref10_Parents.calls k _ _ l0 t322 t323 _ ?side1 ?side2 A4.out).mono ?_); (case side1 => repeat (first | exact HR0.out | (with_reducible refine Kd.C_alloc ?_ _) | (with_reducible refine Kd.C_drewN ?_ _) | (with_reducible refine Kd.C_drew ?_))); (case side2 => exact HC0.out); rintro e w24 ⟨v324, rfl, ho0, hb⟩; have n0_ := Aside0.mk (Kd.R_lower ho0 (below_size (by repeat (first | (with_reducible first | exact HB.out | apply below_alloc | apply pw_below_drewN | apply below_drew1) | exact HB.out)))); have n1_ := Aside0.mk (below_step (by repeat (first | (with_reducible first | exact HB.out | apply below_alloc | apply pw_below_drewN | apply below_drew1) | exact HB.out)) hb); clear HB; have HO325 := n0_; have HB := n1_; clear n0_ n1_; (try clear hb); (try clear hb2); (try clear hk); (try clear hi); (try clear ho0))))
  go_ret
  exact ⟨by first | rfl | (simp [errW_none, errW_some] <;> rfl) | (simp [*, errW_none, errW_some] <;> rfl), by repeat (first | (with_reducible first | exact HB.out | apply below_alloc | apply pw_below_drewN | apply below_drew1) | exact HB.out)⟩

end Go.Proofs.Ythjcmodhleoocaa.Q
/- FCorporaref10Common -/
namespace Go.Proofs.Ythjcmodhleoocaa.Q
open Go.RowKit Go.Proofs.YthjcmodhleoocaaW.PrintWords Go.Proofs.YthjcmodhleoocaaW.PrintLast Go.Proofs.YthjcmodhleoocaaW.PrintMore
attribute [local go_sem] max2_int min2_int max_two min_two max_three min_three max_four min_four   -- for this text's walks alone
set_option linter.unusedVariables false
set_option linter.unusedSimpArgs false

/-! ### corporaref10_Common: function 27 -/
mutual
def corporaref10_Common.j0 : Nat → Int → Int → List Int → Bool → Option (Int)
 | 0, _, _, _, _ => none
 | k + 1, x1, x2, x7, x37 => if x37 = true then (some (-1)) else (corporaref10_Common.l0 k x2 x7 x1)
def corporaref10_Common.l0 : Nat → Int → List Int → Int → Option (Int)
 | 0, _, _, _ => none
 | k + 1, x2, x7, x9 => if x9 ≥ 0 then (corporaref10_Common.l1 k x2 x7 x9 x2) else (some (-1))
def corporaref10_Common.l1 : Nat → Int → List Int → Int → Int → Option (Int)
 | 0, _, _, _, _ => none
 | k + 1, x2, x7, x9, x10 => if x10 ≥ 0 then (if x9 = x10 then (some x9) else (if 0 ≤ x10 then (if x10 < (x7.length : Int) then (corporaref10_Common.l1 k x2 x7 x9 (rd x7 x10)) else (none)) else (none))) else (if 0 ≤ x9 then (if x9 < (x7.length : Int) then (corporaref10_Common.l0 k x2 x7 (rd x7 x9)) else (none)) else (none))
end
def corporaref10_Common.f (k : Nat) (l0 : List (S43)) (a1 : Int) (a2 : Int) : Option (Int) := (corporaref10_Parents.f k l0).bind fun bt328 => (if bt328.2 = 0 then (if a1 < 0 then (corporaref10_Common.j0 k a1 a2 bt328.1 true) else (if a1 ≥ (bt328.1.length : Int) then (corporaref10_Common.j0 k a1 a2 bt328.1 true) else (if a2 < 0 then (corporaref10_Common.j0 k a1 a2 bt328.1 true) else (corporaref10_Common.j0 k a1 a2 bt328.1 (decide (a2 ≥ (bt328.1.length : Int))))))) else (corporaref10_Common.j0 k a1 a2 bt328.1 true))
theorem corporaref10_Common.mono_l : ∀ k, (∀ y0 y1 y2 y3, LeO (corporaref10_Common.j0 k y0 y1 y2 y3) (corporaref10_Common.j0 (k + 1) y0 y1 y2 y3)) ∧ (∀ y0 y1 y2, LeO (corporaref10_Common.l0 k y0 y1 y2) (corporaref10_Common.l0 (k + 1) y0 y1 y2)) ∧ (∀ y0 y1 y2 y3, LeO (corporaref10_Common.l1 k y0 y1 y2 y3) (corporaref10_Common.l1 (k + 1) y0 y1 y2 y3))
 | 0 => ⟨fun _ _ _ _ r h => by simp [corporaref10_Common.j0] at h, fun _ _ _ r h => by simp [corporaref10_Common.l0] at h, fun _ _ _ _ r h => by simp [corporaref10_Common.l1] at h⟩
 | k + 1 => by
  obtain ⟨ih0, ih1, ih2⟩ := corporaref10_Common.mono_l k
  refine ⟨?_, ?_, ?_⟩
  ·intro y0 y1 y2 y3
   unfold corporaref10_Common.j0
   repeat' first
   | (with_reducible exact ih0 _ _ _ _)
   | (with_reducible exact ih1 _ _ _)
   | (with_reducible exact ih2 _ _ _ _)
   | (with_reducible exact corporaref10_Parents.mono _ _)
   | (with_reducible exact LeO.refl _)
   | (with_reducible exact LeO.none _)
   | (with_reducible refine LeO.ite ?_ ?_)
   | (with_reducible refine LeO.bind ?_ (fun _ => ?_))
   | exact ih0 _ _ _ _
   | exact ih1 _ _ _
   | exact ih2 _ _ _ _
   | exact corporaref10_Parents.mono _ _
   | exact LeO.none _
   | refine LeO.ite ?_ ?_
   | refine LeO.bind ?_ (fun _ => ?_)
  ·intro y0 y1 y2
   unfold corporaref10_Common.l0
   repeat' first
   | (with_reducible exact ih0 _ _ _ _)
   | (with_reducible exact ih1 _ _ _)
   | (with_reducible exact ih2 _ _ _ _)
   | (with_reducible exact corporaref10_Parents.mono _ _)
   | (with_reducible exact LeO.refl _)
   | (with_reducible exact LeO.none _)
   | (with_reducible refine LeO.ite ?_ ?_)
   | (with_reducible refine LeO.bind ?_ (fun _ => ?_))
   | exact ih0 _ _ _ _
   | exact ih1 _ _ _
   | exact ih2 _ _ _ _
   | exact corporaref10_Parents.mono _ _
   | exact LeO.none _
   | refine LeO.ite ?_ ?_
   | refine LeO.bind ?_ (fun _ => ?_)
  ·intro y0 y1 y2 y3
   unfold corporaref10_Common.l1
   repeat' first
   | (with_reducible exact ih0 _ _ _ _)
   | (with_reducible exact ih1 _ _ _)
   | (with_reducible exact ih2 _ _ _ _)
   | (with_reducible exact corporaref10_Parents.mono _ _)
   | (with_reducible exact LeO.refl _)
   | (with_reducible exact LeO.none _)
   | (with_reducible refine LeO.ite ?_ ?_)
   | (with_reducible refine LeO.bind ?_ (fun _ => ?_))
   | exact ih0 _ _ _ _
   | exact ih1 _ _ _
   | exact ih2 _ _ _ _
   | exact corporaref10_Parents.mono _ _
   | exact LeO.none _
   | refine LeO.ite ?_ ?_
   | refine LeO.bind ?_ (fun _ => ?_)
theorem corporaref10_Common.mono : ∀ a0 a1 a2 k, LeO (corporaref10_Common.f k a0 a1 a2) (corporaref10_Common.f (k + 1) a0 a1 a2) := by
 intro a0 a1 a2 k
 obtain ⟨ih0, ih1, ih2⟩ := corporaref10_Common.mono_l k
 unfold corporaref10_Common.f
 repeat' first
   | (with_reducible exact ih0 _ _ _ _)
   | (with_reducible exact ih1 _ _ _)
   | (with_reducible exact ih2 _ _ _ _)
   | (with_reducible exact corporaref10_Parents.mono _ _)
   | (with_reducible exact LeO.refl _)
   | (with_reducible exact LeO.none _)
   | (with_reducible refine LeO.ite ?_ ?_)
   | (with_reducible refine LeO.bind ?_ (fun _ => ?_))
   | exact ih0 _ _ _ _
   | exact ih1 _ _ _
   | exact ih2 _ _ _ _
   | exact corporaref10_Parents.mono _ _
   | exact LeO.none _
   | refine LeO.ite ?_ ?_
   | refine LeO.bind ?_ (fun _ => ?_)
set_option maxHeartbeats 8000000 in
set_option maxRecDepth 100000 in
theorem corporaref10_Common.calls (k : Nat) (A0 : Option Addr) (c0 : Nat) (l0 : List (S43)) (a1 : Int) (a2 : Int) (r : Int) (w : World) (hr0 : Kd.C k43 w A0 l0.length l0) (hc0 : l0.length ≤ c0) (h : corporaref10_Common.f k l0 a1 a2 = some r) :
  Calls Try.prog 27 #[.slice A0 l0.length c0, .int .i64 a1, .int .i64 a2] w fun e w' => e = .returned (.int .i64 r) ∧ Below w.heap.size w w' := by
 have HR0 := Aside0.mk hr0
 have HC0 := Aside0.mk hc0
 clear hr0 hc0
 have HB := Aside0.mk (Below.refl w.heap.size w)
 have H : ((corporaref10_Parents.f k l0).bind fun bt328 => (if bt328.2 = 0 then (if a1 < 0 then (corporaref10_Common.j0 k a1 a2 bt328.1 true) else (if a1 ≥ (bt328.1.length : Int) then (corporaref10_Common.j0 k a1 a2 bt328.1 true) else (if a2 < 0 then (corporaref10_Common.j0 k a1 a2 bt328.1 true) else (corporaref10_Common.j0 k a1 a2 bt328.1 (decide (a2 ≥ (bt328.1.length : Int))))))) else (corporaref10_Common.j0 k a1 a2 bt328.1 true))) = some r := h
 clear h
 replace H := Option.bind_eq_some_iff.mp H
 obtain ⟨⟨t328, t329⟩, A40, H⟩ := H
 replace H : (if t329 = 0 then (if a1 < 0 then (corporaref10_Common.j0 k a1 a2 t328 true) else (if a1 ≥ (t328.length : Int) then (corporaref10_Common.j0 k a1 a2 t328 true) else (if a2 < 0 then (corporaref10_Common.j0 k a1 a2 t328 true) else (corporaref10_Common.j0 k a1 a2 t328 (decide (a2 ≥ (t328.length : Int))))))) else (corporaref10_Common.j0 k a1 a2 t328 true)) = some r := H
 have A4 := Aside0.mk A40
 clear A40
 have HC5 := Aside0.mk H
 clear H
 go_enter Try.func27, Try.ntmps27
 go_upto_region 2 with (first | ((with_reducible refine gate_callee (f := 16) rfl ?_); refine goesL_ (some 13) rfl rfl Try.func16 (by kernel_rfl) rfl #[.slice A0 l0.length c0] rfl (by (try simp only [List.map_toArray, List.map_cons, List.map_nil]); first | done | rfl | (simp only [List.length_drop, List.length_take]; rfl)) ?_; (with_reducible refine (corporaref10_Parents.calls k _ _ l0 t328 t329 _ ?side1 ?side2 A4.out).mono ?_); (case side1 => repeat (first | exact HR0.out | (with_reducible refine Kd.C_alloc ?_ _) | (with_reducible refine Kd.C_drewN ?_ _) | (with_reducible refine Kd.C_drew ?_))); (case side2 => exact HC0.out); rintro e w6 ⟨v330, rfl, ho0, hb⟩; refine ⟨_, rfl, ?_⟩; have n0_ := Aside0.mk (Kd.R_lower ho0 (below_size (by repeat (first | (with_reducible first | exact HB.out | apply below_alloc | apply pw_below_drewN | apply below_drew1) | exact HB.out)))); have n1_ := Aside0.mk (below_step (by repeat (first | (with_reducible first | exact HB.out | apply below_alloc | apply pw_below_drewN | apply below_drew1) | exact HB.out)) hb); clear HB; have HO331 := n0_; have HB := n1_; clear n0_ n1_; (try clear hb); (try clear hb2); (try clear hk); (try clear hi); (try clear ho0)))
 (try simp only [Act.put, List.setIfInBounds_toArray, List.set_cons_zero, List.set_cons_succ])
 go_cut [37] (fun v37 wc => ∃ (kq : Nat) (x37_4 : Bool), v37 = .bool x37_4 ∧ Aside0 (corporaref10_Common.j0 kq a1 a2 t328 x37_4 = some r) ∧ Aside0 (kq ≤ k) ∧ Aside0 (Kd.R (Kd.int .i64) 3 wc w.heap.size (fun _ => True) v330 t328) ∧ Aside0 (Below w.heap.size w wc))
 case first =>
  have H := HC5.out
  clear HC5
  by_cases c7 : t329 = 0
  ·rw [if_pos c7] at H
   have c7b0 : (t329 == 0) = true := beq_iff_eq.mpr c7
   have c7b1 : (t329 != 0) = false := bne_eq_false_iff_eq.mpr c7
   clear c7
   (first | rw [c7b0] | (simp only [i64_w, i32_w]; rw [c7b0]) | skip)
   by_cases c8 : a1 < 0
   ·rw [if_pos c8] at H
    have c8b0 : decide (a1 < 0) = true := decide_eq_true c8
    clear c8
    have H' := Aside0.mk H
    clear H
    go_wp2
    go_meet
    case rel => exact ⟨_, (true), (by first | rfl | (simp; done) | (simp [*]; done)), H', ⟨by first | omega | exact Nat.le_refl _⟩, ⟨by (with_reducible repeat (first | apply Kd.R_alloc | apply Kd.R_drewN | apply Kd.R_drew)); exact HO331.out⟩, ⟨by repeat (first | (with_reducible first | exact HB.out | apply below_alloc | apply pw_below_drewN | apply below_drew1) | exact HB.out)⟩⟩
   ·rw [if_neg c8] at H
    have c8b0 : decide (a1 < 0) = false := decide_eq_false c8
    clear c8
    by_cases c9 : a1 ≥ (t328.length : Int)
    ·rw [if_pos c9] at H
     have c9b0 : decide ((t328.length : Int) ≤ a1) = true := decide_eq_true c9
     clear c9
     have H' := Aside0.mk H
     clear H
     obtain ⟨Ao10, co10, eo10⟩ := Kd.R_slice HO331.out
     subst eo10
     go_wp2
     go_meet
     case rel => exact ⟨_, (true), (by first | rfl | (simp; done) | (simp [*]; done)), H', ⟨by first | omega | exact Nat.le_refl _⟩, ⟨by (with_reducible repeat (first | apply Kd.R_alloc | apply Kd.R_drewN | apply Kd.R_drew)); exact HO331.out⟩, ⟨by repeat (first | (with_reducible first | exact HB.out | apply below_alloc | apply pw_below_drewN | apply below_drew1) | exact HB.out)⟩⟩
    ·rw [if_neg c9] at H
     have c9b0 : decide ((t328.length : Int) ≤ a1) = false := decide_eq_false c9
     clear c9
     by_cases c11 : a2 < 0
     ·rw [if_pos c11] at H
      have c11b0 : decide (a2 < 0) = true := decide_eq_true c11
      clear c11
      have H' := Aside0.mk H
      clear H
      obtain ⟨Ao12, co12, eo12⟩ := Kd.R_slice HO331.out
      subst eo12
      go_wp2
      go_meet
      case rel => exact ⟨_, (true), (by first | rfl | (simp; done) | (simp [*]; done)), H', ⟨by first | omega | exact Nat.le_refl _⟩, ⟨by (with_reducible repeat (first | apply Kd.R_alloc | apply Kd.R_drewN | apply Kd.R_drew)); exact HO331.out⟩, ⟨by repeat (first | (with_reducible first | exact HB.out | apply below_alloc | apply pw_below_drewN | apply below_drew1) | exact HB.out)⟩⟩
     ·rw [if_neg c11] at H
      have c11b0 : decide (a2 < 0) = false := decide_eq_false c11
      clear c11
      have H' := Aside0.mk H
      clear H
      obtain ⟨Ao13, co13, eo13⟩ := Kd.R_slice HO331.out
      subst eo13
      go_wp2
      go_meet
      case rel => exact ⟨_, (decide (a2 ≥ (t328.length : Int))), (by first | rfl | (simp; done) | (simp [*]; done)), H', ⟨by first | omega | exact Nat.le_refl _⟩, ⟨by (with_reducible repeat (first | apply Kd.R_alloc | apply Kd.R_drewN | apply Kd.R_drew)); exact HO331.out⟩, ⟨by repeat (first | (with_reducible first | exact HB.out | apply below_alloc | apply pw_below_drewN | apply below_drew1) | exact HB.out)⟩⟩
  ·rw [if_neg c7] at H
   have c7b0 : (t329 == 0) = false := beq_eq_false_iff_ne.mpr c7
   have c7b1 : (t329 != 0) = true := bne_iff_ne.mpr c7
   (first | rw [c7b0] | (simp only [i64_w, i32_w]; rw [c7b0]) | skip)
   have H' := Aside0.mk H
   clear H
   go_wp2
   go_meet
   case rel => exact ⟨_, (true), (by first | rfl | (simp; done) | (simp [*]; done)), H', ⟨by first | omega | exact Nat.le_refl _⟩, ⟨by (with_reducible repeat (first | apply Kd.R_alloc | apply Kd.R_drewN | apply Kd.R_drew)); exact HO331.out⟩, ⟨by repeat (first | (with_reducible first | exact HB.out | apply below_alloc | apply pw_below_drewN | apply below_drew1) | exact HB.out)⟩⟩
 case rest =>
  clear HC5
  try clear c1
  try clear c2
  try clear p2
  try clear c7
  try clear c7b0
  try clear c7b1
  try clear c8
  try clear c8b0
  try clear c9
  try clear c9b0
  try clear c11
  try clear c11b0
  obtain ⟨kq, x37_4, rfl, HA, HJ4, HO_7, HB⟩ := hcut
  cases kq with
  | zero => exact absurd HA.out (by simp [corporaref10_Common.j0])
  | succ kj4 =>
   have H := HA.out
   clear HA
   simp only [corporaref10_Common.j0] at H
   by_cases c14 : x37_4 = true
   ·subst c14
    have H1 : (some (-1)) = some r := by rw [if_pos rfl] at H; exact H
    clear H
    have H := H1
    clear H1
    obtain rfl := Option.some.inj H
    go_wp2
    go_ret
    exact ⟨by first | rfl | (simp [errW_none, errW_some] <;> rfl) | (simp [*, errW_none, errW_some] <;> rfl), by repeat (first | (with_reducible first | exact HB.out | apply below_alloc | apply pw_below_drewN | apply below_drew1) | exact HB.out)⟩
   ·replace c14 := Bool.eq_false_iff.mpr c14
    subst c14
    have H1 : (corporaref10_Common.l0 kj4 a2 t328 a1) = some r := by rw [if_neg (show ¬ (false = true) by decide)] at H; exact H
    clear H
    have H := H1
    clear H1
    have H' := Aside0.mk H
    clear H
    go_wp2
    go_loopg [9] kj4 (fun kq v9 w' => ∃ (x9_2 : Int), v9 = .int .i64 x9_2 ∧ Aside0 (corporaref10_Common.l0 kq a2 t328 x9_2 = some r) ∧ Aside0 (kq ≤ kj4) ∧ Aside0 (Kd.R (Kd.int .i64) 3 w' w.heap.size (fun _ => True) v330 t328) ∧ Aside0 (Below w.heap.size w w'))
    case atStart => exact ⟨(a1), (by first | rfl | (simp; done) | (simp [*]; done)), H', ⟨Nat.le_refl _⟩, ⟨by (with_reducible repeat (first | apply Kd.R_alloc | apply Kd.R_drewN | apply Kd.R_drew)); exact HO_7.out⟩, ⟨by repeat (first | (with_reducible first | exact HB.out | apply below_alloc | apply pw_below_drewN | apply below_drew1) | exact HB.out)⟩⟩
    case round =>
     clear H'
     try clear c1
     try clear c2
     try clear p2
     try clear c7
     try clear c7b0
     try clear c7b1
     try clear c8
     try clear c8b0
     try clear c9
     try clear c9b0
     try clear c11
     try clear c11b0
     try clear c14
     try clear p2
     obtain ⟨x9_2, rfl, HA, HK2, HO_7, HB⟩ := hrel
     cases gk with
     | zero => exact absurd HA.out (by simp [corporaref10_Common.l0])
     | succ k2 =>
      have H := HA.out
      clear HA
      simp only [corporaref10_Common.l0] at H
      by_cases c15 : x9_2 ≥ 0
      ·rw [if_pos c15] at H
       have c15b0 : decide (0 ≤ x9_2) = true := decide_eq_true c15
       clear c15
       have H' := Aside0.mk H
       clear H
       go_wp2
       go_loopg [10] k2 (fun kq v10 w' => ∃ (x10_3 : Int), v10 = .int .i64 x10_3 ∧ Aside0 (corporaref10_Common.l1 kq a2 t328 x9_2 x10_3 = some r) ∧ Aside0 (kq ≤ k2) ∧ Aside0 (Kd.R (Kd.int .i64) 3 w' w.heap.size (fun _ => True) v330 t328) ∧ Aside0 (Below w.heap.size w w'))
       case atStart => exact ⟨(a2), (by first | rfl | (simp; done) | (simp [*]; done)), H', ⟨Nat.le_refl _⟩, ⟨by (with_reducible repeat (first | apply Kd.R_alloc | apply Kd.R_drewN | apply Kd.R_drew)); exact HO_7.out⟩, ⟨by repeat (first | (with_reducible first | exact HB.out | apply below_alloc | apply pw_below_drewN | apply below_drew1) | exact HB.out)⟩⟩
       case round =>
        clear H'
        try clear c1
        try clear c2
        try clear p2
        try clear c7
        try clear c7b0
        try clear c7b1
        try clear c8
        try clear c8b0
        try clear c9
        try clear c9b0
        try clear c11
        try clear c11b0
        try clear c14
        try clear c15
        try clear c15b0
        try clear p2
        obtain ⟨x10_3, rfl, HA, HK3, HO_7, HB⟩ := hrel
        cases gk with
        | zero => exact absurd HA.out (by simp [corporaref10_Common.l1])
        | succ k3 =>
         have H := HA.out
         clear HA
         simp only [corporaref10_Common.l1] at H
         by_cases c16 : x10_3 ≥ 0
         ·rw [if_pos c16] at H
          have c16b0 : decide (0 ≤ x10_3) = true := decide_eq_true c16
          clear c16
          by_cases c17 : x9_2 = x10_3
          ·rw [if_pos c17] at H
           have c17b0 : (x9_2 == x10_3) = true := beq_iff_eq.mpr c17
           have c17b1 : (x9_2 != x10_3) = false := bne_eq_false_iff_eq.mpr c17
           clear c17
           obtain rfl := Option.some.inj H
           go_wp2
           go_ret
           exact ⟨by first | rfl | (simp [errW_none, errW_some] <;> rfl) | (simp [*, errW_none, errW_some] <;> rfl), by repeat (first | (with_reducible first | exact HB.out | apply below_alloc | apply pw_below_drewN | apply below_drew1) | exact HB.out)⟩
          ·rw [if_neg c17] at H
           have c17b0 : (x9_2 == x10_3) = false := beq_eq_false_iff_ne.mpr c17
           have c17b1 : (x9_2 != x10_3) = true := bne_iff_ne.mpr c17
           by_cases c18 : 0 ≤ x10_3
           ·rw [if_pos c18] at H
            have c18b0 : decide (0 ≤ x10_3) = true := decide_eq_true c18
            clear c18
            by_cases c19 : x10_3 < (t328.length : Int)
            ·rw [if_pos c19] at H
             have c19b0 : decide (x10_3 < (t328.length : Int)) = true := decide_eq_true c19
             clear c19
             have H' := Aside0.mk H
             clear H
             obtain ⟨Ao20, co20, eo20⟩ := Kd.R_slice HO_7.out
             subst eo20
             have p332 : 0 ≤ (x10_3 : Int) := of_decide_eq_true (by first | (with_reducible assumption) | assumption)
             have q332 : x10_3 < (t328.length : Int) := of_decide_eq_true (by first | (with_reducible assumption) | assumption)
             obtain ⟨ad332, e332, hx332_0⟩ := Kd.at_int (Kd.R_reads' HO_7.out).2.2 x10_3 p332 q332
             cases e332
             replace p332 := eq_true p332
             replace q332 := eq_true q332
             go_wp2
             go_roundg k3
             case measure => have := HJ4.out; have := HK2.out; have := HK3.out; omega
             case rel => exact ⟨(rd t328 x10_3), (by first | rfl | (simp; done) | (simp [*]; done)), H', ⟨by have := HJ4.out; have := HK2.out; have := HK3.out; omega⟩, ⟨by (with_reducible repeat (first | apply Kd.R_alloc | apply Kd.R_drewN | apply Kd.R_drew)); exact HO_7.out⟩, ⟨by repeat (first | (with_reducible first | exact HB.out | apply below_alloc | apply pw_below_drewN | apply below_drew1) | exact HB.out)⟩⟩
            ·rw [if_neg c19] at H
             exact absurd H (by simp)
           ·rw [if_neg c18] at H
            exact absurd H (by simp)
         ·rw [if_neg c16] at H
          have c16b0 : decide (0 ≤ x10_3) = false := decide_eq_false c16
          clear c16
          by_cases c21 : 0 ≤ x9_2
          ·rw [if_pos c21] at H
           have c21b0 : decide (0 ≤ x9_2) = true := decide_eq_true c21
           clear c21
           by_cases c22 : x9_2 < (t328.length : Int)
           ·rw [if_pos c22] at H
            have c22b0 : decide (x9_2 < (t328.length : Int)) = true := decide_eq_true c22
            clear c22
            have H' := Aside0.mk H
            clear H
            obtain ⟨Ao23, co23, eo23⟩ := Kd.R_slice HO_7.out
            subst eo23
            have p333 : 0 ≤ (x9_2 : Int) := of_decide_eq_true (by first | (with_reducible assumption) | assumption)
            have q333 : x9_2 < (t328.length : Int) := of_decide_eq_true (by first | (with_reducible assumption) | assumption)
            obtain ⟨ad333, e333, hx333_0⟩ := Kd.at_int (Kd.R_reads' HO_7.out).2.2 x9_2 p333 q333
            cases e333
            replace p333 := eq_true p333
            replace q333 := eq_true q333
            go_wp2
            go_roundg k3
            case measure => have := HJ4.out; have := HK2.out; have := HK3.out; omega
            case rel => exact ⟨(rd t328 x9_2), (by first | rfl | (simp; done) | (simp [*]; done)), H', ⟨by have := HJ4.out; have := HK2.out; have := HK3.out; omega⟩, ⟨by (with_reducible repeat (first | apply Kd.R_alloc | apply Kd.R_drewN | apply Kd.R_drew)); exact HO_7.out⟩, ⟨by repeat (first | (with_reducible first | exact HB.out | apply below_alloc | apply pw_below_drewN | apply below_drew1) | exact HB.out)⟩⟩
           ·rw [if_neg c22] at H
            exact absurd H (by simp)
          ·rw [if_neg c21] at H
           exact absurd H (by simp)
      ·rw [if_neg c15] at H
       have c15b0 : decide (0 ≤ x9_2) = false := decide_eq_false c15
       clear c15
       obtain rfl := Option.some.inj H
       go_wp2
       go_ret
       exact ⟨by first | rfl | (simp [errW_none, errW_some] <;> rfl) | (simp [*, errW_none, errW_some] <;> rfl), by repeat (first | (with_reducible first | exact HB.out | apply below_alloc | apply pw_below_drewN | apply below_drew1) | exact HB.out)⟩

end Go.Proofs.Ythjcmodhleoocaa.Q
