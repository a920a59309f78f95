/- The law FeatureParses holds of every string: feature.Parse and the reference's Parse give the same features, or the same error; no condition. (Part 1.) -/
import Derived.Test.YtcgglamgemgeiaaProg
import Derived.Below
import Derived.Deep.Draws
import Derived.Deep.AppendLies
import Derived.Maps.AppendAt
import Derived.OwnWalk
import Derived.Laws.BytesArg
import Derived.Laws.MakeOwn
import Derived.Laws.OwnMore
import Derived.Deep.OwnRows
import Derived.Tactics
import Derived.Lib.ConvBytes
import Derived.Laws.Slices
import Derived.WalkKit
import Derived.KernelRfl
import Derived.RowKit3
import Derived.Deep.LoopGhost
import Derived.Deep.QuietTactic
import Derived.BigQuiet
import Derived.WideLaws
import Derived.Deep.DeepCutAuto
import Derived.Deep.CutBlock
import Derived.Deep.RegionHeld3
import Derived.Laws.Rows
import Derived.Lib.AppendStr
import Derived.ArgAppend
import Derived.Laws.IdiomCopy
import Derived.OrdersHeld
import Derived.Laws.BitsLemmas
import Derived.RowKit
import Derived.Test.YtcgglamgemgeiaaWWords
import Derived.Test.YtcgglamgemgeiaaWLast
import Derived.Test.YtcgglamgemgeiaaWTab
import Derived.Test.YtcgglamgemgeiaaWFour
import Derived.Test.YtcgglamgemgeiaaWQPut
import Derived.Test.YtcgglamgemgeiaaWApart
import Derived.Test.YtcgglamgemgeiaaWArr
import Derived.Test.YtcgglamgemgeiaaWZeros
import Derived.Test.YtcgglamgemgeiaaWFoot
import Derived.Test.YtcgglamgemgeiaaWKept
import Derived.Test.YtcgglamgemgeiaaWShare
import Derived.Test.YtcgglamgemgeiaaWN
import Derived.Test.YtcgglamgemgeiaaWFootNe
import Derived.Test.YtcgglamgemgeiaaWAt
import Derived.Test.YtcgglamgemgeiaaWEqStruct
import Derived.Test.YtcgglamgemgeiaaWRepsOne
import Derived.Test.YtcgglamgemgeiaaWInv
import Derived.Test.YtcgglamgemgeiaaWInvWords
import Derived.Test.YtcgglamgemgeiaaWGuard
import Derived.Test.YtcgglamgemgeiaaWNEv
import Derived.Test.YtcgglamgemgeiaaWMore
import Derived.Laws.Cover1
import Derived.Lib.ValidLaws
import Derived.RangeFuncNested
import Derived.RangeFuncBound
import Derived.RangeFuncCalls
import Derived.RangeFuncLeaves
import Derived.Shelf.Abstract
import Derived.Shelf.RegionOpen
import Derived.OwnWalkIn
import Derived.TacticsInMore
import Derived.LoopNIn
import Derived.LoopIn
import Derived.Laws.RangeAny
import Derived.LoopTactic
import Derived.Shelf.Strings.Search1
import Derived.Shelf.Strings.Search3
set_option linter.unusedVariables false
set_option linter.unusedSimpArgs false
set_option linter.unusedSectionVars false
/- QBase -/
namespace Go.Proofs.Ytcgglamgemgeiaa.Q
open Go.RowKit Go.Proofs.YtcgglamgemgeiaaW.PrintWords Go.Proofs.YtcgglamgemgeiaaW.PrintLast Go.Proofs.YtcgglamgemgeiaaW.PrintMore
attribute [local go_sem] max2_int min2_int max_two min_two max_three min_three max_four min_four   -- for this text's walks alone
set_option linter.unusedVariables false
set_option linter.unusedSimpArgs false



def errW : Option Int → Value
  | none => .nilIface
  | some c => .iface 0 (.int .i64 c)
theorem errW_none : errW none = .nilIface := rfl
theorem errW_some (c : Int) : errW (some c) = .iface 0 (.int .i64 c) := rfl

theorem info5 : (Try.prog.info? 5).map (fun i => (i.zero, i.size, i.bytes)) = some (some (.int .u8 0), 1, 1) := by kernel_rfl
theorem info9 : (Try.prog.info? 9).map (fun i => (i.zero, i.size, i.bytes)) = some (some (.string ⟨#[]⟩), 1, 16) := by kernel_rfl
theorem info23 : (Try.prog.info? 23).map (fun i => (i.zero, i.size, i.bytes)) = some (some (.slice none 0 0), 1, 24) := by kernel_rfl
-- the values' own types
def rd_L1 (xs : List (List ByteArray)) (i : Int) : (List ByteArray) := xs.getD i.toNat ([] : List ByteArray)
theorem at_L1 {w : World} {A : Option Addr} {n : Nat} {xs : List (List ByteArray)} (h : Kd.C (Kd.slice 9 Kd.string) w A n xs) (i : Int) (h0 : 0 ≤ i) (h1 : i < n) : ∃ ad A0 c0, A = some ad ∧ w.cell? (ad.add i.toNat) = some (.slice A0 (rd_L1 xs i).length c0) ∧ (rd_L1 xs i).length ≤ c0 ∧ Kd.string.C w A0 (rd_L1 xs i).length (rd_L1 xs i) := by
  obtain ⟨ad, c, e, _, hK, hc0⟩ := Kd.C_get h ([] : List ByteArray) i h0 h1
  have hc : ∀ j u, c[j]? = some u → w.cell? (ad.add (i.toNat * 1 + j)) = some u := hc0
  obtain ⟨A0, c0, rfl, l0, g0⟩ := hK
  exact ⟨ad, A0, c0, e, by have hq := hc 0 _ rfl; rwa [Nat.mul_one, Nat.add_zero] at hq, l0, g0⟩

end Go.Proofs.Ytcgglamgemgeiaa.Q
/- FCorporalaw05Long -/
namespace Go.Proofs.Ytcgglamgemgeiaa.Q
open Go.RowKit Go.Proofs.YtcgglamgemgeiaaW.PrintWords Go.Proofs.YtcgglamgemgeiaaW.PrintLast Go.Proofs.YtcgglamgemgeiaaW.PrintMore
attribute [local go_sem] max2_int min2_int max_two min_two max_three min_three max_four min_four   -- for this text's walks alone
set_option linter.unusedVariables false
set_option linter.unusedSimpArgs false

/-! ### corporalaw05_long: function 11 -/
def corporalaw05_long.l0 : Nat → List ByteArray → List ByteArray → Int → Int → Option (Bool)
  | 0, _, _, _, _ => none
  | k + 1, x0, x5, x6, x7 => if x7 < x6 then (if 0 ≤ x7 then (if x7 < (x5.length : Int) then (if ((rdOf ByteArray.empty x5 x7).size : Int) > 300 then (some true) else (corporalaw05_long.l0 k x0 x5 x6 (wrap64 (x7 + 1)))) else (none)) else (none)) else (some (decide ((x0.length : Int) > 40)))
def corporalaw05_long.f (k : Nat) (l0 : List ByteArray) : Option (Bool) := corporalaw05_long.l0 k l0 l0 (l0.length : Int) 0
theorem corporalaw05_long.mono_l : ∀ k, (∀ y0 y1 y2 y3, LeO (corporalaw05_long.l0 k y0 y1 y2 y3) (corporalaw05_long.l0 (k + 1) y0 y1 y2 y3))
  | 0 => fun _ _ _ _ r h => by simp [corporalaw05_long.l0] at h
  | k + 1 => by
    have ih0 := corporalaw05_long.mono_l k
    · intro y0 y1 y2 y3
      unfold corporalaw05_long.l0
      repeat' first
      | (with_reducible exact ih0 _ _ _ _)
      | (with_reducible exact LeO.refl _)
      | (with_reducible exact LeO.none _)
      | (with_reducible refine LeO.ite ?_ ?_)
      | (with_reducible refine LeO.bind ?_ (fun _ => ?_))
      | exact ih0 _ _ _ _
      | exact LeO.none _
      | refine LeO.ite ?_ ?_
      | refine LeO.bind ?_ (fun _ => ?_)
theorem corporalaw05_long.mono : ∀ a0 k, LeO (corporalaw05_long.f k a0) (corporalaw05_long.f (k + 1) a0) := by
  intro a0 k
  have ih0 := corporalaw05_long.mono_l k
  unfold corporalaw05_long.f
  repeat' first
      | (with_reducible exact ih0 _ _ _ _)
      | (with_reducible exact LeO.refl _)
      | (with_reducible exact LeO.none _)
      | (with_reducible refine LeO.ite ?_ ?_)
      | (with_reducible refine LeO.bind ?_ (fun _ => ?_))
      | exact ih0 _ _ _ _
      | exact LeO.none _
      | refine LeO.ite ?_ ?_
      | refine LeO.bind ?_ (fun _ => ?_)
set_option maxHeartbeats 8000000 in
set_option maxRecDepth 100000 in
theorem corporalaw05_long.calls (k : Nat) (A0 : Option Addr) (c0 : Nat) (l0 : List ByteArray) (r : Bool) (w : World) (hr0 : Kd.C Kd.string w A0 l0.length l0) (hc0 : l0.length ≤ c0) (h : corporalaw05_long.f k l0 = some r) :
    Calls Try.prog 11 #[.slice A0 l0.length c0] w fun e w' => e = .returned (.bool r) ∧ Drawn0 w w' := by
  have HR0 := Aside0.mk hr0
  have HC0 := Aside0.mk hc0
  clear hr0 hc0
  have H : (corporalaw05_long.l0 k l0 l0 (l0.length : Int) 0) = some r := h
  clear h
  have H' := Aside0.mk H
  clear H
  go_enter Try.func11, Try.ntmps11
  go_wp2
  go_loopg [7] k (fun kq v7 w' => ∃ (x7_1 : Int), v7 = .int .i64 x7_1 ∧ Aside0 (corporalaw05_long.l0 kq l0 l0 (l0.length : Int) x7_1 = some r) ∧ Aside0 (kq ≤ k) ∧ Drawn0 w w')
  case atStart => exact ⟨(0), (by first | rfl | (simp; done) | (simp [*]; done)), H', ⟨Nat.le_refl _⟩, by repeat (first | exact Drawn0.refl _ | apply Drawn0.step)⟩
  case round =>
    clear H'
    try clear c1
    obtain ⟨x7_1, rfl, HA, HK1, ⟨m1, rfl⟩⟩ := hrel
    cases gk with
    | zero => exact absurd HA.out (by simp [corporalaw05_long.l0])
    | succ k1 =>
      have H := HA.out
      clear HA
      simp only [corporalaw05_long.l0] at H
      by_cases c2 : x7_1 < (l0.length : Int)
      · rw [if_pos c2] at H
        have c2b0 : decide (x7_1 < (l0.length : Int)) = true := decide_eq_true c2
        clear c2
        by_cases c3 : 0 ≤ x7_1
        · rw [if_pos c3] at H
          have c3b0 : decide (0 ≤ x7_1) = true := decide_eq_true c3
          clear c3
          by_cases c4 : x7_1 < (l0.length : Int)
          · rw [if_pos c4] at H
            have c4b0 : decide (x7_1 < (l0.length : Int)) = true := decide_eq_true c4
            clear c4
            by_cases c5 : ((rdOf ByteArray.empty l0 x7_1).size : Int) > 300
            · rw [if_pos c5] at H
              have c5b0 : decide (300 < ((rdOf ByteArray.empty l0 x7_1).size : Int)) = true := decide_eq_true c5
              have c5b1 : decide (300 < (rdOf ByteArray.empty l0 x7_1).size) = true := decide_eq_true (by omega)
              clear c5
              obtain rfl := Option.some.inj H
              have p101 : 0 ≤ (x7_1 : Int) := of_decide_eq_true (by first | (with_reducible assumption) | assumption)
              have q101 : x7_1 < (l0.length : Int) := of_decide_eq_true (by first | (with_reducible assumption) | assumption)
              obtain ⟨ad101, e101, hx101_0⟩ := Kd.at_string HR0.out x7_1 p101 q101
              cases e101
              replace p101 := eq_true p101
              replace q101 := eq_true q101
              go_wp2
              go_ret
              exact ⟨by first | rfl | (simp; done) | (simp [*]; done), by repeat (first | exact Drawn0.refl _ | apply Drawn0.step)⟩
            · rw [if_neg c5] at H
              have c5b0 : decide (300 < ((rdOf ByteArray.empty l0 x7_1).size : Int)) = false := decide_eq_false c5
              have c5b1 : decide (300 < (rdOf ByteArray.empty l0 x7_1).size) = false := decide_eq_false (by omega)
              clear c5
              have H' := Aside0.mk H
              clear H
              have p101 : 0 ≤ (x7_1 : Int) := of_decide_eq_true (by first | (with_reducible assumption) | assumption)
              have q101 : x7_1 < (l0.length : Int) := of_decide_eq_true (by first | (with_reducible assumption) | assumption)
              obtain ⟨ad101, e101, hx101_0⟩ := Kd.at_string HR0.out x7_1 p101 q101
              cases e101
              replace p101 := eq_true p101
              replace q101 := eq_true q101
              go_wp2
              go_roundg k1
              case measure => have := HK1.out; omega
              case rel => exact ⟨(wrap64 (x7_1 + 1)), (by first | rfl | (simp; done) | (simp [*]; done)), H', ⟨by have := HK1.out; omega⟩, by repeat (first | exact Drawn0.refl _ | apply Drawn0.step)⟩
          · rw [if_neg c4] at H
            exact absurd H (by simp)
        · rw [if_neg c3] at H
          exact absurd H (by simp)
      · rw [if_neg c2] at H
        have c2b0 : decide (x7_1 < (l0.length : Int)) = false := decide_eq_false c2
        clear c2
        obtain rfl := Option.some.inj H
        go_wp2
        go_ret
        exact ⟨by first | rfl | (simp; done) | (simp [*]; done), by repeat (first | exact Drawn0.refl _ | apply Drawn0.step)⟩

end Go.Proofs.Ytcgglamgemgeiaa.Q
/- Utf -/
namespace Go.Proofs.Ytcgglamgemgeiaa.Q
open Go.Lib
theorem decodeN_cut (n n' b0 b1 b2 b3 c1 c2 c3 : Nat) (hn : 1 ≤ n) (hnn : n < n') (e1 : 1 < n → c1 = b1) (e2 : 2 < n → c2 = b2) (e3 : 3 < n → c3 = b3)
    (f1 : n = 1 → c1 / 64 ≠ 2) (f2 : n = 2 → c2 / 64 ≠ 2) (f3 : n = 3 → c3 / 64 ≠ 2) : decodeN n' b0 c1 c2 c3 = decodeN n b0 b1 b2 b3 := by
  have k1 : (1 < n' ∧ c1 / 64 = 2) = (1 < n ∧ b1 / 64 = 2) := propext ⟨fun h => by
      rcases Nat.lt_or_ge 1 n with h1 | h1
      · exact ⟨h1, by rw [← e1 h1]; exact h.2⟩
      · exact absurd h.2 (f1 (by omega)), fun h => ⟨by omega, by rw [e1 h.1]; exact h.2⟩⟩
  have k2 : ((1 < n ∧ b1 / 64 = 2) ∧ (2 < n' ∧ c2 / 64 = 2)) = ((1 < n ∧ b1 / 64 = 2) ∧ (2 < n ∧ b2 / 64 = 2)) := propext ⟨fun h => ⟨h.1, by
      rcases Nat.lt_or_ge 2 n with h1 | h1
      · exact ⟨h1, by rw [← e2 h1]; exact h.2.2⟩
      · exact absurd h.2.2 (f2 (by omega))⟩, fun h => ⟨h.1, by omega, by rw [e2 h.2.1]; exact h.2.2⟩⟩
  have k3 : ((1 < n ∧ b1 / 64 = 2) ∧ (2 < n ∧ b2 / 64 = 2) ∧ (3 < n' ∧ c3 / 64 = 2)) = ((1 < n ∧ b1 / 64 = 2) ∧ (2 < n ∧ b2 / 64 = 2) ∧ (3 < n ∧ b3 / 64 = 2)) := propext ⟨fun h => ⟨h.1, h.2.1, by
      rcases Nat.lt_or_ge 3 n with h1 | h1
      · exact ⟨h1, by rw [← e3 h1]; exact h.2.2.2⟩
      · exact absurd h.2.2.2 (f3 (by omega))⟩, fun h => ⟨h.1, h.2.1, by omega, by rw [e3 h.2.2.1]; exact h.2.2.2⟩⟩
  unfold decodeN
  by_cases h1 : 1 < n ∧ b1 / 64 = 2
  · have g1 := e1 h1.1
    subst g1
    have h1' : 1 < n' ∧ c1 / 64 = 2 := ⟨by omega, h1.2⟩
    by_cases h2 : 2 < n ∧ b2 / 64 = 2
    · have g2 := e2 h2.1
      subst g2
      have h2' : 2 < n' ∧ c2 / 64 = 2 := ⟨by omega, h2.2⟩
      by_cases h3 : 3 < n ∧ b3 / 64 = 2
      · have g3 := e3 h3.1
        subst g3
        have h3' : 3 < n' ∧ c3 / 64 = 2 := ⟨by omega, h3.2⟩
        simp only [h1, h1', h2, h2', h3, h3']
      · have h3' : ¬ (3 < n' ∧ c3 / 64 = 2) := fun h => h3 (k3.mp ⟨h1, h2, h⟩).2.2
        simp only [h1, h1', h2, h2', h3, h3', and_false, if_false]
    · have h2' : ¬ (2 < n' ∧ c2 / 64 = 2) := fun h => h2 (k2.mp ⟨h1, h⟩).2
      simp only [h1, h1', h2, h2', false_and, and_false, if_false]
  · have h1' : ¬ (1 < n' ∧ c1 / 64 = 2) := fun h => h1 (k1.mp h)
    simp only [h1, h1', false_and, and_false, if_false]
theorem decodeN_width_le (n b0 b1 b2 b3 : Nat) (hn : 1 ≤ n) : (decodeN n b0 b1 b2 b3).2 ≤ n := by
  unfold decodeN
  repeat' split
  all_goals (simp only; omega)
theorem getD_app_lt (l m : List UInt8) (k : Nat) (h : k < l.length) : (l ++ m).getD k 0 = l.getD k 0 := by
  simp [List.getD, List.getElem?_append_left h]
theorem getD_app_eq (l t : List UInt8) (b : UInt8) (k : Nat) (h : l.length = k) : (l ++ b :: t).getD k 0 = b := by
  subst h; simp [List.getD]
theorem decodeL_cut (l t : List UInt8) (b : UInt8) (hb : b.toNat < 128) (hl : l ≠ []) : decodeL (l ++ b :: t) = decodeL l := by
  have h1 : 1 ≤ l.length := List.length_pos_iff.2 hl
  rw [decodeL_N, decodeL_N, getD_app_lt l _ 0 h1]
  refine decodeN_cut l.length _ _ _ _ _ _ _ _ h1 (by simp) (fun h => by rw [getD_app_lt l _ 1 h]) (fun h => by rw [getD_app_lt l _ 2 h]) (fun h => by rw [getD_app_lt l _ 3 h]) (fun h => ?_) (fun h => ?_) (fun h => ?_)
  all_goals rw [getD_app_eq l t b _ h]; omega
theorem decodeL_width_le (l : List UInt8) (hl : l ≠ []) : (decodeL l).2 ≤ l.length := by
  rw [decodeL_N]; exact decodeN_width_le _ _ _ _ _ (List.length_pos_iff.2 hl)
/-- Cut at a byte below 128: both parts are valid exactly if the whole is. -/
theorem validD_cut (t : List UInt8) (b : UInt8) (hb : b.toNat < 128) : ∀ (n : Nat) (l : List UInt8), l.length ≤ n → validD (l ++ b :: t) = (validD l && validD t) := by
  intro n
  induction n with
  | zero =>
    intro l hl
    obtain rfl : l = [] := List.eq_nil_of_length_eq_zero (by omega)
    rw [List.nil_append, validD_cons b t hb, validD_nil, Bool.true_and]
  | succ n ih =>
    intro l hl
    by_cases hne : l = []
    · subst hne
      rw [List.nil_append, validD_cons b t hb, validD_nil, Bool.true_and]
    · have hw := decodeL_width_le l hne
      have hw1 := decodeL_width l
      rw [validD_step _ (by simp), validD_step l hne, decodeL_cut l t b hb hne]
      by_cases hc : (decodeL l).1 = 65533 ∧ (decodeL l).2 = 1
      · rw [if_pos hc, if_pos hc, Bool.false_and]
      · rw [if_neg hc, if_neg hc, List.drop_append_of_le_length hw]
        exact ih _ (by rw [List.length_drop]; omega)
/-- A byte that no value contains. -/
def badB (b : UInt8) : Bool := decide (b.toNat ≤ 31) || decide (b.toNat = 127)
/-- The reason why a string is not a value; 0: it is one. -/
def vv (s : ByteArray) : Int := if 120 < s.size then 2 else if validD s.data.toList = false then 7 else if s.data.toList.any badB = true then 14 else 0
/-- What holds of the first unit. -/
theorem decodeN_unit (n b0 b1 b2 b3 : Nat) (hn : 1 ≤ n) (h : ¬ ((decodeN n b0 b1 b2 b3).1 = 65533 ∧ (decodeN n b0 b1 b2 b3).2 = 1)) :
    (b0 < 128 ∧ decodeN n b0 b1 b2 b3 = (b0, 1)) ∨ (128 ≤ b0 ∧ 128 ≤ (decodeN n b0 b1 b2 b3).1 ∧ (decodeN n b0 b1 b2 b3).2 ≤ 4 ∧ (1 < (decodeN n b0 b1 b2 b3).2 → 128 ≤ b1) ∧ (2 < (decodeN n b0 b1 b2 b3).2 → 128 ≤ b2) ∧ (3 < (decodeN n b0 b1 b2 b3).2 → 128 ≤ b3)) := by
  unfold decodeN at h ⊢
  repeat' split at h
  all_goals first | (exfalso; exact h ⟨rfl, rfl⟩) | skip
  · rename_i h0
    left
    simp [h0]
  all_goals (have hb_ : ¬ b0 < 128 := by assumption
             rw [if_neg hb_]
             right
             simp_all
             omega)
theorem any_unit (l : List UInt8) (hne : l ≠ []) (h : ¬ ((decodeL l).1 = 65533 ∧ (decodeL l).2 = 1)) :
    l.any badB = ((decide ((decodeL l).1 ≤ 31) || decide ((decodeL l).1 = 127)) || (l.drop (decodeL l).2).any badB) := by
  have h1 : 1 ≤ l.length := List.length_pos_iff.2 hne
  have hw := decodeL_width_le l hne
  have hw1 := decodeL_width l
  have e : l.any badB = ((l.take (decodeL l).2).any badB || (l.drop (decodeL l).2).any badB) := by
    rw [← List.any_append, List.take_append_drop]
  rw [e]
  congr 1
  rw [decodeL_N] at h hw hw1 ⊢
  rcases decodeN_unit _ _ _ _ _ h1 h with ⟨h2, h3⟩ | ⟨h0, hr, h4, k1, k2, k3⟩
  · rw [h3]
    cases l with
    | nil => exact absurd rfl hne
    | cons b t => simp [badB]
  · have : ∀ x ∈ l.take (decodeN l.length (l.getD 0 0).toNat (l.getD 1 0).toNat (l.getD 2 0).toNat (l.getD 3 0).toNat).2, 128 ≤ x.toNat := by
      intro x hx
      obtain ⟨i, hi, rfl⟩ := List.mem_iff_getElem.1 hx
      rw [List.length_take] at hi
      rw [List.getElem_take]
      have hil : i < l.length := by omega
      have eg : l[i] = l.getD i 0 := by simp [List.getD, hil]
      rw [eg]
      match i, hi with
      | 0, _ => exact h0
      | 1, hi => exact k1 (by omega)
      | 2, hi => exact k2 (by omega)
      | 3, hi => exact k3 (by omega)
      | i + 4, hi => omega
    have hf : (l.take (decodeN l.length (l.getD 0 0).toNat (l.getD 1 0).toNat (l.getD 2 0).toNat (l.getD 3 0).toNat).2).any badB = false := by
      rw [List.any_eq_false]
      intro x hx
      have := this x hx
      unfold badB
      simp
      omega
    rw [hf, decide_eq_false (by omega), decide_eq_false (by omega)]
    rfl
end Go.Proofs.Ytcgglamgemgeiaa.Q
/- Units -/
namespace Go.Proofs.Ytcgglamgemgeiaa.Q
open Go.RowKit Go.Shelf Go.Lib Go.Proofs.YtcgglamgemgeiaaW.PrintWords
attribute [local go_sem] Oper.semAt_some
/-- A step of a string's iterator, in whatever world. -/
theorem run_next_at {P : Program} (W : World) (b : Nat) (s : ByteArray) (pos : Nat) (ty : TypeId) (hW : W.heap[b]? = some (.stringIter s pos)) (h : pos < s.size) :
    (Instr.next (.pointer (some ⟨b, 0, none⟩)) true ty).run P W = .ok (.tuple #[.bool true, .int .i64 pos, .int .i32 (Utf8.decode s pos).1]) (W.putObj b (.stringIter s (pos + (Utf8.decode s pos).2))) := by
  simp only [Instr.next, getObj, setObj, Sem.run_bind, Sem.run, hW, Result.andThen, h, if_true]
  simp [goInt, World.putObj]
theorem run_next_over {P : Program} (W : World) (b : Nat) (s : ByteArray) (pos : Nat) (ty : TypeId) (hW : W.heap[b]? = some (.stringIter s pos)) (h : ¬ pos < s.size) :
    (Instr.next (.pointer (some ⟨b, 0, none⟩)) true ty).run P W = .ok (.tuple #[.bool false]) W := by
  simp [Instr.next, getObj, Sem.run, hW, h]
theorem width_le (s : ByteArray) (pos : Nat) (h : pos < s.size) : pos + (Utf8.decode s pos).2 ≤ s.size := by
  have := decodeN_width_le (s.size - pos) (s.get! pos).toNat (s.get! (pos + 1)).toNat (s.get! (pos + 2)).toNat (s.get! (pos + 3)).toNat (by omega)
  rw [decode_at]
  omega
/-- The unit at a place, as the program's struct. -/
def unitV (s : ByteArray) (p : Nat) : Value := .agg #[.int .i32 (Utf8.decode s p).1, .int .i64 (p : Int), .int .i64 ((Utf8.decode s p).2 : Int)]
/-- What a round that goes on keeps: the blocks from n₁ on, and block B. -/
def KeepsU (n₁ B : Nat) (W W' : World) : Prop := W.heap.size ≤ W'.heap.size ∧ ∀ k, n₁ ≤ k ∨ k = B → k < W.heap.size → W'.heap[k]? = W.heap[k]?

theorem set2_52 {w : World} {b : Nat} {x y z : Value} (h : w.heap[b]? = some (.cells #[x, y, z] 52 (0, 0))) (v : Value) : (w.setCell ⟨b, 2, none⟩ v).heap[b]? = some (.cells #[x, y, v] 52 (0, 0)) := blk_put h 2 v rfl
theorem set3_52 {w : World} {b : Nat} {x y z : Value} (h : w.heap[b]? = some (.cells #[x, y, z] 52 (0, 0))) (u0 u1 u2 : Value) :
    (((w.setCell ⟨b, 0, none⟩ u0).setCell ⟨b, 1, none⟩ u1).setCell ⟨b, 2, none⟩ u2).heap[b]? = some (.cells #[u0, u1, u2] 52 (0, 0)) := blk_put (blk_put (blk_put h 0 u0 rfl) 1 u1 rfl) 2 u2 rfl
theorem set3_far {w : World} {b k : Nat} (hk : k ≠ b) (u0 u1 u2 : Value) :
    (((w.setCell ⟨b, 0, none⟩ u0).setCell ⟨b, 1, none⟩ u1).setCell ⟨b, 2, none⟩ u2).heap[k]? = w.heap[k]? :=
  (Below.heap_setCell _ _ _ k hk).trans ((Below.heap_setCell _ _ _ k hk).trans (Below.heap_setCell _ _ _ k hk))
theorem set3_below {w : World} {b n : Nat} (hb : n ≤ b) (u0 u1 u2 : Value) : Below n w (((w.setCell ⟨b, 0, none⟩ u0).setCell ⟨b, 1, none⟩ u1).setCell ⟨b, 2, none⟩ u2) :=
  (((Below.refl n w).setCell (p := ⟨b, 0, none⟩) hb u0).setCell (p := ⟨b, 1, none⟩) hb u1).setCell (p := ⟨b, 2, none⟩) hb u2
theorem iterPos_of {w : World} {k : Nat} {s : ByteArray} {p : Nat} (h : w.heap[k]? = some (.stringIter s p)) : w.iterPos k = p := by simp [World.iterPos, h]
set_option maxRecDepth 100000 in
set_option maxHeartbeats 4000000 in
theorem units1_in (F : Fence) (n : Nat) (h43 : F.fn 43) (hro : F.round = none) (hn : 1 ≤ n) (l B n₁ : Nat) (s : ByteArray) (hs : s.size ≤ 9223372036854775807) (J Jx : Nat → World → Prop)
    (hJ : ∀ p W W', J p W → Below n₁ W W' → J p W') (hJx : ∀ p W W', Jx p W → Below n₁ W W' → Jx p W')
    (hY : ∀ p W, J p W → p < s.size → YieldAt F (n - 1) Try.prog l #[unitV s p] W fun e W' =>
      (e = .returned (.bool true) ∧ J (p + (Utf8.decode s p).2) W' ∧ KeepsU n₁ B W W') ∨ (e = .returned (.bool false) ∧ Jx p W'))
    (W : World) (hW : n₁ = W.heap.size) (hB : B < n₁) (hBs : W.cell? ⟨B, 0, none⟩ = some (.string s)) (h0 : J 0 W) :
    CallsIn F n Try.prog 43 #[.func (.yield l) #[] #[], .pointer (some ⟨B, 0, none⟩)] W fun e W' => (∃ v, e = .returned v) ∧
      ((∃ p, ¬ p < s.size ∧ J p W') ∨ (∃ p, p < s.size ∧ Jx p W')) := by
  refine callsIn_of_wp Try.func43 rfl h43 ?_ hro
  simp only [Try.ntmps43, List.size_toArray, List.length_cons, List.length_nil, Nat.reduceAdd, Nat.reduceSub, Array.replicate_succ, Array.replicate_zero, List.push_toArray, List.append_toArray, List.nil_append, List.cons_append]
  have hbl : B < W.heap.size := by omega
  subst hW
  have hBs1 : ∀ o, (W.alloc o).cell? ⟨B, 0, none⟩ = some (.string s) := fun o => (World.cell?_of_block (Below.heap_alloc W o B hbl)).trans hBs
  gi_wp2
  gi_loopw [4, 5, 9, 10, 11, 12, 13, 14, 15, 16, 17, 18, 19, 20, 21, 22, 23, 24, 25, 26, 27, 28, 29] (fun (v4 v5 v9 v10 v11 v12 v13 v14 v15 v16 v17 v18 v19 v20 v21 v22 v23 v24 v25 v26 v27 v28 v29 : Value) wr => ∃ (pos : Nat) (r at_ sz : Int), wr.heap[W.heap.size]? = some (.cells #[.int .i32 r, .int .i64 at_, .int .i64 sz] 52 (0, 0)) ∧ wr.heap[W.heap.size + 1]? = some (.stringIter s pos) ∧ wr.cell? ⟨B, 0, none⟩ = some (.string s) ∧
    ((at_ = -1 ∧ pos = 0 ∧ J 0 wr) ∨ (∃ p : Nat, at_ = p ∧ p < s.size ∧ pos = p + (Utf8.decode s p).2 ∧ r = (Utf8.decode s p).1 ∧ J p wr)))
    (fun v4 v5 v9 v10 v11 v12 v13 v14 v15 v16 v17 v18 v19 v20 v21 v22 v23 v24 v25 v26 v27 v28 v29 wr => s.size - wr.iterPos (W.heap.size + 1))
  case atStart =>
    have hb1 := Below.heap_alloc (W.alloc (Obj.cells #[Value.int IntKind.i32 0, Value.int IntKind.i64 (-1), Value.int IntKind.i64 0] 52)) (.stringIter s 0) W.heap.size (by simp)
    refine ⟨0, 0, -1, 0, hb1.trans (blk_new W _), ?_, (World.cell?_of_block (Below.heap_alloc _ _ B (by simp; omega))).trans (hBs1 _), .inl ⟨rfl, rfl, hJ _ _ _ h0 (((Below.refl _ W).alloc (Nat.le_refl _) _).alloc (by simp) _)⟩⟩
    have := blk_new (W.alloc (Obj.cells #[Value.int IntKind.i32 0, Value.int IntKind.i64 (-1), Value.int IntKind.i64 0] 52)) (.stringIter s 0)
    rwa [World.size_alloc] at this
  case round =>
    obtain ⟨pos, r, at_, sz, hu, hit, hBr, hst⟩ := hrel
    by_cases hp : pos < s.size
    · have hnx : ∀ ty, (Instr.next (.pointer (some ⟨W.heap.size + 1, 0, none⟩)) true ty).run Try.prog wr = _ := fun ty => run_next_at wr _ s pos ty hit hp
      have hu2 : (wr.putObj (W.heap.size + 1) (.stringIter s (pos + (Utf8.decode s pos).2))).heap[W.heap.size]? = _ := (World.putObj_heap_other (by omega)).trans hu
      obtain ⟨w2, hw2⟩ : ∃ w2, wr.putObj (W.heap.size + 1) (.stringIter s (pos + (Utf8.decode s pos).2)) = w2 := ⟨_, rfl⟩
      rw [hw2] at hnx hu2
      have c21 := (blk_cell hu2 1).trans rfl
      have f22 := blk_frozen hu2 2
      have c22 := (blk_cell hu2 2).trans rfl
      have c30 : ∀ v, (w2.setCell ⟨W.heap.size, 2, none⟩ v).cell? ⟨W.heap.size, 0, none⟩ = some (.int .i32 r) := fun v => blk_cell (set2_52 hu2 v) 0
      have c31 : ∀ v, (w2.setCell ⟨W.heap.size, 2, none⟩ v).cell? ⟨W.heap.size, 1, none⟩ = some (.int .i64 at_) := fun v => blk_cell (set2_52 hu2 v) 1
      have c32 : ∀ v, (w2.setCell ⟨W.heap.size, 2, none⟩ v).cell? ⟨W.heap.size, 2, none⟩ = some v := fun v => blk_cell (set2_52 hu2 v) 2
      have hlt1 := blk_lt hit
      have hb2 : Below W.heap.size wr w2 := by rw [← hw2]; exact (Below.refl _ wr).grown (grownBy_putObj' wr _ _) (by omega) (fun k e => by cases e; omega)
      have hit2 : w2.heap[W.heap.size + 1]? = some (.stringIter s (pos + (Utf8.decode s pos).2)) := by rw [← hw2]; exact World.putObj_heap_same hlt1
      have hB2 : w2.cell? ⟨B, 0, none⟩ = some (.string s) := (World.cell?_of_block (hb2.block B hbl)).trans hBr
      have hmon := width_pos s pos
      have hle := width_le s pos hp
      have ip := iterPos_of hit
      rcases hst with ⟨rfl, rfl, hJ0⟩ | ⟨p, rfl, hps, hpos, rfl, hJp⟩
      · have hu3 := fun v => set2_52 hu2 v
        have f30 : ∀ v, (w2.setCell ⟨W.heap.size, 2, none⟩ v).frozen? ⟨W.heap.size, 0, none⟩ = false := fun v => blk_frozen (hu3 v) 0
        have f31 : ∀ v, (w2.setCell ⟨W.heap.size, 2, none⟩ v).frozen? ⟨W.heap.size, 1, none⟩ = false := fun v => blk_frozen (hu3 v) 1
        have f32 : ∀ v, (w2.setCell ⟨W.heap.size, 2, none⟩ v).frozen? ⟨W.heap.size, 2, none⟩ = false := fun v => blk_frozen (hu3 v) 2
        gi_wp2
        refine ⟨fun _ h => (by cases h), ?_⟩
        gi_wp2
        go_roundw
        case rel =>
          refine ⟨_, _, _, _, set3_52 (hu3 _) _ _ _, (set3_far (by omega) _ _ _).trans ((Below.heap_setCell _ _ _ _ (by simp)).trans hit2), ?_, .inr ⟨0, rfl, hp, rfl, rfl, ?_⟩⟩
          · exact (World.cell?_of_block ((set3_far (by simp; omega) _ _ _).trans (Below.heap_setCell _ _ _ _ (by simp; omega)))).trans hB2
          · exact hJ _ _ _ hJ0 ((hb2.setCell (p := ⟨W.heap.size, 2, none⟩) (Nat.le_refl _) _).trans (set3_below (Nat.le_refl _) _ _ _))
        case measure =>
          rw [ip, iterPos_of ((set3_far (by omega) _ _ _).trans ((Below.heap_setCell _ _ _ _ (by simp)).trans hit2))]
          omega
      · subst hpos
        have e : unitV s p = .agg #[.int .i32 (Utf8.decode s p).1, .int .i64 (p : Int), .int .i64 ((p : Int) + ((Utf8.decode s p).2 : Int) - (p : Int))] := by
          unfold unitV
          have : (p : Int) + ((Utf8.decode s p).2 : Int) - (p : Int) = ((Utf8.decode s p).2 : Int) := by omega
          rw [this]
        obtain ⟨fn, tmps, assign, body, hy, hR⟩ := hY p (w2.setCell ⟨W.heap.size, 2, none⟩ (.int .i64 ((p : Int) + ((Utf8.decode s p).2 : Int) - (p : Int)))) (hJ _ _ _ hJp (hb2.setCell (p := ⟨W.heap.size, 2, none⟩) (Nat.le_refl _) _)) hps
        rw [e] at hy
        have hlt2 := blk_lt hit2
        gi_wp2
        refine hR.mono ?_
        rintro e W3 (⟨rfl, hJ3, hk3⟩ | ⟨rfl, hJx3⟩)
        · have hu3 := (hk3.2 W.heap.size (.inl (Nat.le_refl _)) (by rw [World.size_setCell]; omega)).trans (set2_52 hu2 _)
          have hit3 := (hk3.2 (W.heap.size + 1) (.inl (by omega)) (by rw [World.size_setCell]; omega)).trans ((Below.heap_setCell _ _ _ _ (by simp)).trans hit2)
          have hB3 : W3.cell? ⟨B, 0, none⟩ = some (.string s) := (World.cell?_of_block ((hk3.2 B (.inr rfl) (by rw [World.size_setCell]; omega)).trans (Below.heap_setCell _ _ _ _ (by simp; omega)))).trans hB2
          have f30 := blk_frozen hu3 0
          have f31 := blk_frozen hu3 1
          have f32 := blk_frozen hu3 2
          have d30 := (blk_cell hu3 0).trans rfl
          have d31 := (blk_cell hu3 1).trans rfl
          have d32 := (blk_cell hu3 2).trans rfl
          gi_wp2
          go_roundw
          case rel =>
            refine ⟨_, _, _, _, set3_52 hu3 _ _ _, (set3_far (by omega) _ _ _).trans hit3, (World.cell?_of_block (set3_far (by simp; omega) _ _ _)).trans hB3, .inr ⟨p + (Utf8.decode s p).2, by omega, hp, rfl, rfl, ?_⟩⟩
            exact hJ _ _ _ hJ3 (set3_below (Nat.le_refl _) _ _ _)
          case measure =>
            rw [ip, iterPos_of ((set3_far (by omega) _ _ _).trans hit3)]
            omega
        · gi_wp2
          refine bodyPost_ret (results_none rfl _ _ _) rfl ?_
          exact ⟨⟨_, rfl⟩, .inr ⟨p, hps, hJx3⟩⟩
    · have hnx : ∀ ty, (Instr.next (.pointer (some ⟨W.heap.size + 1, 0, none⟩)) true ty).run Try.prog wr = _ := fun ty => run_next_over wr _ s pos ty hit hp
      have c21 := (blk_cell hu 1).trans rfl
      have f22 := blk_frozen hu 2
      have c22 := (blk_cell hu 2).trans rfl
      have c30 : ∀ v, (wr.setCell ⟨W.heap.size, 2, none⟩ v).cell? ⟨W.heap.size, 0, none⟩ = some (.int .i32 r) := fun v => blk_cell (set2_52 hu v) 0
      have c31 : ∀ v, (wr.setCell ⟨W.heap.size, 2, none⟩ v).cell? ⟨W.heap.size, 1, none⟩ = some (.int .i64 at_) := fun v => blk_cell (set2_52 hu v) 1
      have c32 : ∀ v, (wr.setCell ⟨W.heap.size, 2, none⟩ v).cell? ⟨W.heap.size, 2, none⟩ = some v := fun v => blk_cell (set2_52 hu v) 2
      rcases hst with ⟨rfl, rfl, hJ0⟩ | ⟨p, rfl, hps, hpos, rfl, hJp⟩
      · gi_wp2
        go_end0
        exact ⟨⟨_, rfl⟩, .inl ⟨0, hp, hJ _ _ _ hJ0 ((Below.refl _ _).setCell (p := ⟨W.heap.size, 2, none⟩) (Nat.le_refl _) _)⟩⟩
      · have hsz : pos = s.size := by have := width_le s p hps; omega
        have hw0 := width_pos s p
        have e : unitV s p = .agg #[.int .i32 (Utf8.decode s p).1, .int .i64 (p : Int), .int .i64 ((s.size : Int) - (p : Int))] := by
          unfold unitV
          have : (s.size : Int) - (p : Int) = ((Utf8.decode s p).2 : Int) := by omega
          rw [this]
        obtain ⟨fn, tmps, assign, body, hy, hR⟩ := hY p (wr.setCell ⟨W.heap.size, 2, none⟩ (.int .i64 ((s.size : Int) - (p : Int)))) (hJ _ _ _ hJp ((Below.refl _ _).setCell (p := ⟨W.heap.size, 2, none⟩) (Nat.le_refl _) _)) hps
        rw [e] at hy
        gi_wp2
        refine hR.mono ?_
        rintro e W3 (⟨rfl, hJ3, hk3⟩ | ⟨rfl, hJx3⟩)
        · gi_wp2
          go_end0
          exact ⟨⟨_, rfl⟩, .inl ⟨p + (Utf8.decode s p).2, by omega, hJ3⟩⟩
        · gi_wp2
          go_end0
          exact ⟨⟨_, rfl⟩, .inr ⟨p, hps, hJx3⟩⟩
end Go.Proofs.Ytcgglamgemgeiaa.Q
/- FCodepointUnitValid -/
namespace Go.Proofs.Ytcgglamgemgeiaa.Q
open Go.RowKit Go.Proofs.YtcgglamgemgeiaaW.PrintWords Go.Proofs.YtcgglamgemgeiaaW.PrintLast Go.Proofs.YtcgglamgemgeiaaW.PrintMore
attribute [local go_sem] max2_int min2_int max_two min_two max_three min_three max_four min_four   -- for this text's walks alone
set_option linter.unusedVariables false
set_option linter.unusedSimpArgs false

/-! ### codepoint_unit_valid: function 40 -/
def codepoint_unit_valid.f (a0_0 : Int) (a0_1 : Int) (a0_2 : Int) : Option (Bool) := if a0_0 = 65533 then (some (a0_2 == 3)) else (some true)
set_option maxHeartbeats 8000000 in
set_option maxRecDepth 100000 in
theorem codepoint_unit_valid.calls (a0_0 : Int) (a0_1 : Int) (a0_2 : Int) (r : Bool) (w : World) (h : codepoint_unit_valid.f a0_0 a0_1 a0_2 = some r) :
    Calls Try.prog 40 #[.agg #[.int .i32 a0_0, .int .i64 a0_1, .int .i64 a0_2]] w fun e w' => e = .returned (.bool r) ∧ Below w.heap.size w w' := by
  have hu52 := Try.underlying52
  have HB := Aside0.mk (Below.refl w.heap.size w)
  have H : (if a0_0 = 65533 then (some (a0_2 == 3)) else (some true)) = some r := h
  clear h
  by_cases c2 : a0_0 = 65533
  · rw [if_pos c2] at H
    have c2b0 : (a0_0 == 65533) = true := beq_iff_eq.mpr c2
    have c2b1 : (a0_0 != 65533) = false := bne_eq_false_iff_eq.mpr c2
    clear c2
    obtain rfl := Option.some.inj H
    go_enter Try.func40, Try.ntmps40
    go_wp2_with (first | ((with_reducible refine gate_dst (N := 1) rfl ?_); refine box_event ?hg (N := 1) ?hd (cs := #[.int .i32 a0_0, .int .i64 a0_1, .int .i64 a0_2]) (t := 52) ?hr ?_; (case hd => rfl); (case hg => rfl); (case hr => first | (go_simp; done) | (go_simp; rfl)); intro gb102 hg w3 hbox hb; have n0_ := Aside0.mk (below_step (by repeat (first | (with_reducible first | exact HB.out | apply below_alloc | apply pw_below_drewN | apply below_drew1) | exact HB.out)) hb); have n1_ := Aside0.mk (hbox); have n2_ := Aside0.mk ((by rw [hg]; exact (below_size (by repeat (first | (with_reducible first | exact HB.out | apply below_alloc | apply pw_below_drewN | apply below_drew1) | exact HB.out))) : w.heap.size ≤ gb102)); have n3_ := Aside0.mk ((by rw [hg]; exact (below_size (by repeat (first | (with_reducible first | exact HB.out | apply below_alloc | apply pw_below_drewN | apply below_drew1) | exact HB.out))) : w.heap.size ≤ gb102)); clear HB; have HB := n0_; have BK102 := n1_; have GW102 := n2_; have GE102 := n3_; clear n0_ n1_ n2_ n3_; clear hb hbox hg; have hcz4_0 : w3.cell? ⟨gb102, 0, none⟩ = some (.int .i32 a0_0) := (blk_cell BK102.out 0).trans rfl; have hcz4_1 : w3.cell? ⟨gb102, 1, none⟩ = some (.int .i64 a0_1) := (blk_cell BK102.out 1).trans rfl; have hcz4_2 : w3.cell? ⟨gb102, 2, none⟩ = some (.int .i64 a0_2) := (blk_cell BK102.out 2).trans rfl; have hfz4_0 := blk_frozen BK102.out 0; have hfz4_1 := blk_frozen BK102.out 1; have hfz4_2 := blk_frozen BK102.out 2))
    go_ret
    exact ⟨by first | rfl | (simp [errW_none, errW_some] <;> rfl) | (simp [*, errW_none, errW_some] <;> rfl), by repeat (first | (with_reducible first | exact HB.out | apply below_alloc | apply pw_below_drewN | apply below_drew1 | refine below_set ?_ GE102.out) | exact HB.out)⟩
  · rw [if_neg c2] at H
    have c2b0 : (a0_0 == 65533) = false := beq_eq_false_iff_ne.mpr c2
    have c2b1 : (a0_0 != 65533) = true := bne_iff_ne.mpr c2
    obtain rfl := Option.some.inj H
    go_enter Try.func40, Try.ntmps40
    go_wp2_with (first | ((with_reducible refine gate_dst (N := 1) rfl ?_); refine box_event ?hg (N := 1) ?hd (cs := #[.int .i32 a0_0, .int .i64 a0_1, .int .i64 a0_2]) (t := 52) ?hr ?_; (case hd => rfl); (case hg => rfl); (case hr => first | (go_simp; done) | (go_simp; rfl)); intro gb102 hg w5 hbox hb; have n0_ := Aside0.mk (below_step (by repeat (first | (with_reducible first | exact HB.out | apply below_alloc | apply pw_below_drewN | apply below_drew1) | exact HB.out)) hb); have n1_ := Aside0.mk (hbox); have n2_ := Aside0.mk ((by rw [hg]; exact (below_size (by repeat (first | (with_reducible first | exact HB.out | apply below_alloc | apply pw_below_drewN | apply below_drew1) | exact HB.out))) : w.heap.size ≤ gb102)); have n3_ := Aside0.mk ((by rw [hg]; exact (below_size (by repeat (first | (with_reducible first | exact HB.out | apply below_alloc | apply pw_below_drewN | apply below_drew1) | exact HB.out))) : w.heap.size ≤ gb102)); clear HB; have HB := n0_; have BK102 := n1_; have GW102 := n2_; have GE102 := n3_; clear n0_ n1_ n2_ n3_; clear hb hbox hg; have hcz6_0 : w5.cell? ⟨gb102, 0, none⟩ = some (.int .i32 a0_0) := (blk_cell BK102.out 0).trans rfl; have hcz6_1 : w5.cell? ⟨gb102, 1, none⟩ = some (.int .i64 a0_1) := (blk_cell BK102.out 1).trans rfl; have hcz6_2 : w5.cell? ⟨gb102, 2, none⟩ = some (.int .i64 a0_2) := (blk_cell BK102.out 2).trans rfl; have hfz6_0 := blk_frozen BK102.out 0; have hfz6_1 := blk_frozen BK102.out 1; have hfz6_2 := blk_frozen BK102.out 2))
    go_ret
    exact ⟨by first | rfl | (simp [errW_none, errW_some] <;> rfl) | (simp [*, errW_none, errW_some] <;> rfl), by repeat (first | (with_reducible first | exact HB.out | apply below_alloc | apply pw_below_drewN | apply below_drew1 | refine below_set ?_ GE102.out) | exact HB.out)⟩

end Go.Proofs.Ytcgglamgemgeiaa.Q
/- CpValid -/
namespace Go.Proofs.Ytcgglamgemgeiaa.Q
open Go.RowKit Go.Shelf Go.Lib Go.Proofs.YtcgglamgemgeiaaW.PrintWords
attribute [local go_sem] Oper.semAt_some
set_option maxHeartbeats 1000000 in
theorem units_in (F : Fence) (n : Nat) (h39 : F.fn 39) (hro : F.round = none) (s : ByteArray) (w : World) :
    CallsIn F n Try.prog 39 #[.string s] w fun e w' => e = .returned (.func (.func 43) #[] #[.pointer (some ⟨w.heap.size, 0, none⟩)]) ∧ w' = w.alloc (.cells #[.string s] 9) := by
  refine callsIn_of_wp Try.func39 rfl h39 ?_ hro
  simp only [Try.ntmps39, List.size_toArray, List.length_cons, List.length_nil, Nat.reduceAdd, Nat.reduceSub, Array.replicate_succ, Array.replicate_zero, List.push_toArray, List.append_toArray, List.nil_append, List.cons_append]
  gi_wp2
  go_ret
  exact ⟨rfl, rfl⟩
/-- How the body of a round may be left. -/
def roundU (Kp : World → World → Prop) (I : World → Prop) (Ix : World → Prop) (W : World) : Exit → Act → World → Prop
  | .normal, _, W' => Kp W W' ∧ I W'
  | .ret, _, W' => Kp W W' ∧ Ix W'
  | _, _, _ => False
set_option maxHeartbeats 1000000 in
/-- A loop over codepoint.units(s): what the caller owes. -/
theorem wpIn_units {F : Fence} {n : Nat} {g : Operand} {ps : Array Tmp} {assign body : Code} {Q : Exit → Act → World → Prop} {a : Act} {w : World} (h43 : F.fn 43) (hro : F.round = none) (hn : 2 ≤ n) {B : Nat} (hps : ps.size = 1)
    (hg : a.eval g = .func (.func 43) #[] #[.pointer (some ⟨B, 0, none⟩)]) (s : ByteArray) (hs : s.size ≤ 9223372036854775807) (hB : w.cell? ⟨B, 0, none⟩ = some (.string s))
    (I Ix : Nat → World → Prop) (hI : ∀ p W W', I p W → Below w.heap.size W W' → I p W') (hIx : ∀ p W W', Ix p W → Below w.heap.size W W' → Ix p W') (h0 : I 0 w)
    (A : Nat → Act → World → Prop) (hA : ∀ p a' W o, A p a' W → A p a' (W.putObj (w.heap.size + 1) o))
    (hassign : ∀ (l p : Nat) (W : World) (K : Act → World → Prop), I p W → p < s.size → w.heap.size + 2 ≤ W.heap.size → (∀ a' W', KeepsU w.heap.size B W W' → A p a' W' → I p W' → K a' W') →
      assign.wpIn (F.inRound l) (n - 1 - 1) Try.prog (Exit.then K (fun _ _ _ => False)) { tmps := (ps.zip #[unitV s p]).foldl (fun t (p, v) => t.setIfInBounds p v) a.tmps, defers := [] } W)
    (hbody : ∀ (l p : Nat) (a' : Act) (W : World), I p W → p < s.size → A p a' W → body.wpIn (F.inRound l) (n - 1 - 1) Try.prog (roundU (KeepsU w.heap.size B) (I (p + (Utf8.decode s p).2)) (Ix p) W) a' W)
    (hdone : ∀ (p : Nat) (W : World), ¬ p < s.size → I p W → W.heap[w.heap.size]? = some (.deferred (some [])) → Q .normal { a with defers := { target := .collected w.heap.size, args := #[] } :: a.defers } W)
    (hstop : ∀ (p : Nat) (W : World), p < s.size → Ix p W → W.heap[w.heap.size]? = some (.deferred (some [])) → Code.ret.wpIn F n Try.prog Q { a with defers := { target := .collected w.heap.size, args := #[] } :: a.defers } W) :
    (Code.rangeFunc g ps assign body).wpIn F n Try.prog Q a w := by
  have hbl := World.block_lt_of_cell? w _ hB
  simp only at hbl
  refine wpIn_rangeFunc ?_
  intro fn hfn
  rw [hro]
  obtain ⟨rec, hrec⟩ : ∃ rec : LoopState → Option Code → Loop, rec = fun st pe => { state := st, pending := pe, fn, tmps := a.tmps, params := ps, assign, body, defers := w.heap.size } := ⟨_, rfl⟩
  obtain ⟨W1, hW1⟩ : ∃ W1, (w.alloc (.deferred (some []))).alloc (.loop (rec .ready none)) = W1 := ⟨_, rfl⟩
  have hs1 : W1.heap.size = w.heap.size + 2 := by rw [← hW1]; simp
  have hL1 : W1.heap[w.heap.size + 1]? = some (.loop (rec .ready none)) := by
    rw [← hW1]; have := World.alloc_heap_new (w.alloc (.deferred (some []))) (.loop (rec .ready none)); rwa [World.size_alloc] at this
  have hK1 : W1.heap[w.heap.size]? = some (.deferred (some [])) := by
    rw [← hW1]; exact (Below.heap_alloc _ _ _ (by simp)).trans (World.alloc_heap_new w _)
  have hb1 : Below w.heap.size w W1 := by rw [← hW1]; exact ((Below.refl _ w).alloc (Nat.le_refl _) _).alloc (by simp) _
  have put : ∀ (W : World) (o o' : Obj), W.heap[w.heap.size + 1]? = some o → Below w.heap.size W (W.putObj (w.heap.size + 1) o') := fun W o o' h =>
    (Below.refl _ W).grown (grownBy_putObj' W _ o') (by have := blk_lt h; omega) (fun k e => by cases e; omega)
  refine ⟨w.heap.size + 1, [{ target := .collected w.heap.size, args := #[] }], W1, { target := .fn (.func 43) #[.pointer (some ⟨B, 0, none⟩)], args := #[.func (.yield (w.heap.size + 1)) #[] #[]] }, W1, 43,
    #[.func (.yield (w.heap.size + 1)) #[] #[], .pointer (some ⟨B, 0, none⟩)], W1, ?_, ?_, ?_, ?_, fun _ => by omega, ?_⟩
  · rw [← hW1, hrec]; exact run_enterLoop_outer _ _ _ _ _
  · simp only [resolve, hg]; simp [go_sem]
  · intro f' hf'; simp [Target.leads] at hf'; subst hf'; exact h43
  · simp [invoke, go_sem]
  · refine (units1_in F (n - 1) h43 hro (by omega) (w.heap.size + 1) B W1.heap.size s hs
      (fun p W => I p W ∧ W.heap[w.heap.size + 1]? = some (.loop (rec .ready none)) ∧ W.heap[w.heap.size]? = some (.deferred (some [])))
      (fun p W => Ix p W ∧ W.heap[w.heap.size + 1]? = some (.loop (rec .done (some .ret))) ∧ W.heap[w.heap.size]? = some (.deferred (some [])))
      (fun p W W' h hb => ⟨hI p W W' h.1 (hb.mono (by omega)), (hb.block _ (by omega)).trans h.2.1, (hb.block _ (by omega)).trans h.2.2⟩)
      (fun p W W' h hb => ⟨hIx p W W' h.1 (hb.mono (by omega)), (hb.block _ (by omega)).trans h.2.1, (hb.block _ (by omega)).trans h.2.2⟩)
      ?_ W1 rfl (by omega) ((World.cell?_of_block (hb1.block B (by omega))).trans hB) ⟨hI 0 w W1 h0 hb1, hL1, hK1⟩).mono ?_
    · rintro p W ⟨hi, hl, hk⟩ hp
      have hlt := blk_lt hl
      have hy := run_yield (P := Try.prog) (args := #[unitV s p]) hl (by rw [hrec]; exact hps.symm)
      rw [hrec] at hy
      refine ⟨fn, _, assign, body, hy, roundIn_of_wpIn hfn (hassign _ p W _ hi hp (by omega) ?_)⟩
      intro a' Wa hka hax hia
      have hla := (hka.2 _ (.inl (by omega)) hlt).trans hl
      have hkka := (hka.2 _ (.inl (by omega)) (by omega)).trans hk
      have hlta := blk_lt hla
      refine ⟨_, run_beginRound hla (by rw [hrec]), ?_⟩
      have hl2 : (Wa.putObj (w.heap.size + 1) (.loop { rec .ready none with state := .busy })).heap[w.heap.size + 1]? = some (.loop { rec .ready none with state := .busy }) := World.putObj_heap_same hlta
      have hk2 : (Wa.putObj (w.heap.size + 1) (.loop { rec .ready none with state := .busy })).heap[w.heap.size]? = some (.deferred (some [])) := (World.putObj_heap_other (by omega)).trans hkka
      refine wpIn_mono (hbody _ p a' _ (hI _ _ _ hia (put _ _ _ hla)) hp (hA _ _ _ _ hax)) ?_
      have kp : ∀ (W3 : World) (o : Obj), KeepsU w.heap.size B (Wa.putObj (w.heap.size + 1) (.loop { rec .ready none with state := .busy })) W3 → KeepsU W1.heap.size B W (W3.putObj (w.heap.size + 1) o) := fun W3 o h3 =>
        ⟨by have := hka.1; have := h3.1; simp only [World.putObj_size] at *; omega, fun k hk hkw => by
          have k1 : k ≠ w.heap.size + 1 := by omega
          have k2 : w.heap.size ≤ k ∨ k = B := by omega
          exact (World.putObj_heap_other k1).trans ((h3.2 k k2 (by have := hka.1; rw [World.putObj_size]; omega)).trans ((World.putObj_heap_other k1).trans (hka.2 k k2 hkw)))⟩
      rintro e a3 W3 hq
      cases e with
      | normal =>
        obtain ⟨hk3, hi3⟩ := hq
        have hl3 := (hk3.2 (w.heap.size + 1) (.inl (by omega)) (by rw [World.putObj_size]; omega)).trans hl2
        have hd3 := (hk3.2 w.heap.size (.inl (by omega)) (by rw [World.putObj_size]; omega)).trans hk2
        have hr := run_endRound (P := Try.prog) none hl3
        refine ⟨_, _, hr, .inl ⟨rfl, ⟨hI _ _ _ hi3 (put _ _ _ hl3), ?_, (World.putObj_heap_other (by omega)).trans hd3⟩, kp W3 _ hk3⟩⟩
        have := World.putObj_heap_same (w := W3) (o := .loop (rec .ready none)) (blk_lt hl3)
        rw [hrec] at this ⊢; exact this
      | ret =>
        obtain ⟨hk3, hi3⟩ := hq
        have hl3 := (hk3.2 (w.heap.size + 1) (.inl (by omega)) (by rw [World.putObj_size]; omega)).trans hl2
        have hd3 := (hk3.2 w.heap.size (.inl (by omega)) (by rw [World.putObj_size]; omega)).trans hk2
        have hr := run_endRound (P := Try.prog) (some .ret) hl3
        refine ⟨_, _, hr, .inr ⟨rfl, ⟨hIx _ _ _ hi3 (put _ _ _ hl3), ?_, (World.putObj_heap_other (by omega)).trans hd3⟩⟩⟩
        have := World.putObj_heap_same (w := W3) (o := .loop (rec .done (some .ret))) (blk_lt hl3)
        rw [hrec] at this ⊢; exact this
      | exit id => exact hq.elim
      | goto t => exact hq.elim
      | panic ch => exact hq.elim
      | outgrown => exact hq.elim
    · rintro e W2 ⟨⟨v, rfl⟩, (⟨p, hp, hi, hl, hk⟩ | ⟨p, hp, hi, hl, hk⟩)⟩
      · exact ⟨none, _, by have := run_endLoop (P := Try.prog) hl (by rw [hrec]; simp); rw [hrec] at this; exact this, hdone p _ hp (hI _ _ _ hi (put _ _ _ hl)) ((World.putObj_heap_other (by omega)).trans hk)⟩
      · exact ⟨some .ret, _, by have := run_endLoop (P := Try.prog) hl (by rw [hrec]; simp); rw [hrec] at this; exact this, hstop p _ hp (hIx _ _ _ hi (put _ _ _ hl)) ((World.putObj_heap_other (by omega)).trans hk)⟩
theorem decodeN_fffd (n b0 b1 b2 b3 : Nat) (h : (decodeN n b0 b1 b2 b3).1 = 65533) : (decodeN n b0 b1 b2 b3).2 = 1 ∨ (decodeN n b0 b1 b2 b3).2 = 3 := by
  revert h
  unfold decodeN
  repeat' split
  all_goals (intro h; first | exact .inl rfl | exact .inr rfl | (exfalso; simp only at h; omega))
/-- What (unit).valid says of the unit at a place. -/
def okU (s : ByteArray) (p : Nat) : Bool := !decide ((Utf8.decode s p).1 = 65533 ∧ (Utf8.decode s p).2 = 1)
theorem unit_valid_f (s : ByteArray) (p : Nat) : codepoint_unit_valid.f ((Utf8.decode s p).1 : Int) (p : Int) ((Utf8.decode s p).2 : Int) = some (okU s p) := by
  have h := decodeN_fffd (s.size - p) (s.get! p).toNat (s.get! (p + 1)).toNat (s.get! (p + 2)).toNat (s.get! (p + 3)).toNat
  rw [← decode_at] at h
  unfold codepoint_unit_valid.f okU
  by_cases h1 : (Utf8.decode s p).1 = 65533
  · rw [if_pos (by omega)]
    rcases h h1 with h2 | h2 <;> simp [h1, h2]
  · rw [if_neg (by omega)]
    simp [h1]
theorem drop_ne (s : ByteArray) (p : Nat) (hp : p < s.size) : s.data.toList.drop p ≠ [] := by
  intro h
  have := congrArg List.length h
  rw [List.length_drop, ← size_eq] at this
  simp at this
  omega
theorem valid_step_at (s : ByteArray) (p : Nat) (hp : p < s.size) : validD (s.data.toList.drop p) = (okU s p && validD (s.data.toList.drop (p + (Utf8.decode s p).2))) := by
  rw [validD_step _ (drop_ne s p hp), decodeL_drop]
  unfold okU
  by_cases h : (Utf8.decode s p).1 = 65533 ∧ (Utf8.decode s p).2 = 1
  · rw [if_pos h]; simp [h]
  · rw [if_neg h, List.drop_drop]; simp [h]
theorem drop_end (s : ByteArray) (p : Nat) (hp : ¬ p < s.size) : s.data.toList.drop p = [] := List.drop_eq_nil_of_le (by rw [← size_eq]; omega)
set_option maxRecDepth 100000 in
set_option maxHeartbeats 4000000 in
theorem cpValid_in (n : Nat) (hn : 3 ≤ n) (s : ByteArray) (hs : s.size ≤ 9223372036854775807) (w : World) :
    CallsIn Fence.wide n Try.prog 36 #[.string s] w fun e w' => e = .returned (.bool (validD s.data.toList)) ∧ Below w.heap.size w w' := by
  have h1 : 1 ≤ n := by omega
  refine callsIn_of_wp_marks Try.func36 rfl trivial ?_ rfl
  simp only [Try.ntmps36, List.size_toArray, List.length_cons, List.length_nil, Nat.reduceAdd, Nat.reduceSub, Array.replicate_succ, Array.replicate_zero, List.push_toArray, List.append_toArray, List.nil_append, List.cons_append]
  gi_wp2_with (refine ⟨trivial, ?_⟩; gi_at_call 39; refine (units_in Fence.wide (n - 1) trivial rfl _ _).mono ?_; rintro e w' ⟨rfl, rfl⟩)
  obtain ⟨W0, hW0⟩ : ∃ W0, (w.alloc (.cells #[.bool false] 4)).alloc (.cells #[.string s] 9) = W0 := ⟨_, rfl⟩
  have hs0 : W0.heap.size = w.heap.size + 2 := by rw [← hW0]; simp
  have hB0 : W0.heap[w.heap.size]? = some (.cells #[.bool false] 4 (0, 0)) := by rw [← hW0]; exact (Below.heap_alloc _ _ _ (by simp)).trans (blk_new w _)
  have hB1 : W0.heap[w.heap.size + 1]? = some (.cells #[.string s] 9 (0, 0)) := by
    rw [← hW0]; have := blk_new (w.alloc (.cells #[.bool false] 4)) (.cells #[.string s] 9); rwa [World.size_alloc] at this
  have hb0 : Below w.heap.size w W0 := by rw [← hW0]; exact ((Below.refl _ w).alloc (Nat.le_refl _) _).alloc (by simp) _
  rw [hW0]
  refine wpIn_units (F := Fence.wide) (n := n) (B := w.heap.size + 1) trivial rfl (by omega) rfl rfl s hs (blk_cell hB1 0)
    (fun p W => Below w.heap.size w W ∧ W.heap[w.heap.size]? = some (.cells #[.bool false] 4 (0, 0)) ∧ validD (s.data.toList.drop p) = validD s.data.toList)
    (fun p W => Below w.heap.size w W ∧ W.heap[w.heap.size]? = some (.cells #[.bool false] 4 (0, 0)) ∧ validD s.data.toList = false)
    (fun p W W' h hb => ⟨h.1.trans (hb.mono (by omega)), (hb.block _ (by omega)).trans h.2.1, h.2.2⟩)
    (fun p W W' h hb => ⟨h.1.trans (hb.mono (by omega)), (hb.block _ (by omega)).trans h.2.1, h.2.2⟩)
    ⟨hb0, hB0, rfl⟩
    (fun p a' W => ∃ Bx, Bx ≠ W0.heap.size + 1 ∧ w.heap.size < Bx ∧ Bx ≠ w.heap.size + 1 ∧ W.heap[Bx]? = some (.cells #[.int .i32 (Utf8.decode s p).1, .int .i64 (p : Int), .int .i64 ((Utf8.decode s p).2 : Int)] 52 (0, 0)) ∧
      a' = { tmps := #[.string s, undef, .pointer (some ⟨w.heap.size, 0, none⟩), .pointer (some ⟨Bx, 0, none⟩), .string s, .func (.func 43) #[] #[.pointer (some ⟨w.heap.size + 1, 0, none⟩)], unitV s p, undef, undef, undef], defers := [] })
    (fun p a' W o h => by obtain ⟨Bx, h1, h2, h3, h4, h5⟩ := h; exact ⟨Bx, h1, h2, h3, (World.putObj_heap_other h1).trans h4, h5⟩) ?assign ?body ?done ?stop
  case assign =>
    intro l p W K hi hp hsz hK
    unfold unitV
    gi_wp2
    refine hK _ _ ⟨by simp, fun k _ hk => Below.heap_alloc W _ k hk⟩ ⟨W.heap.size, by omega, by omega, by omega, blk_new W _, rfl⟩ ⟨hi.1.alloc hi.1.size _, (Below.heap_alloc W _ _ (by omega)).trans hi.2.1, hi.2.2⟩
  case body =>
    rintro l p a' W ⟨hb, hr, hv⟩ hp ⟨Bx, k1, k2, k3, h4, rfl⟩
    have h11 : 1 ≤ n - 1 - 1 := by omega
    have c0 := (blk_cell h4 0).trans rfl
    have c1 := (blk_cell h4 1).trans rfl
    have c2 := (blk_cell h4 2).trans rfl
    have hvs := valid_step_at s p hp
    have hu := unit_valid_f s p
    cases hok : okU s p with
    | true =>
      rw [hok] at hvs hu
      rw [Bool.true_and] at hvs
      gi_wp2_with (refine ⟨trivial, ?_⟩; gi_at_call 40; refine (CallsIn.inRound l (callsIn_wide.2 (codepoint_unit_valid.calls _ _ _ _ _ hu))).mono ?_; rintro e w' ⟨rfl, hb'⟩)
      exact ⟨⟨hb'.size, fun k _ hk => hb'.block k hk⟩, hb.trans (hb'.mono hb.size), (hb'.block _ (blk_lt hr)).trans hr, by rw [← hvs, hv]⟩
    | false =>
      rw [hok] at hvs hu
      rw [Bool.false_and, hv] at hvs
      gi_wp2_with (refine ⟨trivial, ?_⟩; gi_at_call 40; refine (CallsIn.inRound l (callsIn_wide.2 (codepoint_unit_valid.calls _ _ _ _ _ hu))).mono ?_; rintro e w' ⟨rfl, hb'⟩; have hr' := (hb'.block _ (blk_lt hr)).trans hr; have hc := (blk_cell hr' 0).trans rfl; have hf := blk_frozen hr' 0)
      refine ⟨⟨by rw [World.size_setCell]; exact hb'.size, fun k hk hkw => (Below.heap_setCell _ _ _ k (by simp; omega)).trans (hb'.block k hkw)⟩, (hb.trans (hb'.mono hb.size)).setCell (p := ⟨w.heap.size, 0, none⟩) (Nat.le_refl _) _, blk_put hr' 0 _ rfl, hvs⟩
  case done =>
    rintro p W hp ⟨hb, hr, hv⟩ hK
    rw [drop_end s p hp, validD_nil] at hv
    replace hv := hv.symm
    have hc := (blk_cell hr 0).trans rfl
    have hf := blk_frozen hr 0
    gi_wp2
    have hr1 := blk_put hr 0 (.bool true) rfl
    have hK1 := (Below.heap_setCell W ⟨w.heap.size, 0, none⟩ (.bool true) W0.heap.size (by simp; omega)).trans hK
    refine ⟨by simp, .inl ⟨_, _, rfl, run_takeDeferred hK1, ?_⟩⟩
    have hr2 := (World.putObj_heap_other (o := Obj.deferred none) (r := W0.heap.size) (k := w.heap.size) (by omega)).trans hr1
    have hc2 := (blk_cell hr2 0).trans rfl
    refine ⟨.bool true, ?_, by rw [hv], ?_⟩
    · simp [results, Try.f36, go_sem, hc2]
    · exact (hb.setCell (p := ⟨w.heap.size, 0, none⟩) (Nat.le_refl _) _).grown (grownBy_putObj' _ _ _) (by rw [World.size_setCell]; exact hb.size) (fun k e => by cases e; omega)
  case stop =>
    rintro p W hp ⟨hb, hr, hv⟩ hK
    gi_wp2
    refine ⟨by simp, .inl ⟨_, _, rfl, run_takeDeferred hK, ?_⟩⟩
    have hr2 := (World.putObj_heap_other (o := Obj.deferred none) (r := W0.heap.size) (k := w.heap.size) (by omega)).trans hr
    have hc2 := (blk_cell hr2 0).trans rfl
    refine ⟨.bool false, ?_, by rw [hv], ?_⟩
    · simp [results, Try.f36, go_sem, hc2]
    · exact hb.grown (grownBy_putObj' _ _ _) hb.size (fun k e => by cases e; omega)
end Go.Proofs.Ytcgglamgemgeiaa.Q
/- FCodepointValid -/
namespace Go.Proofs.Ytcgglamgemgeiaa.Q
open Go.RowKit Go.Proofs.YtcgglamgemgeiaaW.PrintWords Go.Proofs.YtcgglamgemgeiaaW.PrintLast Go.Proofs.YtcgglamgemgeiaaW.PrintMore
attribute [local go_sem] max2_int min2_int max_two min_two max_three min_three max_four min_four   -- for this text's walks alone
set_option linter.unusedVariables false
set_option linter.unusedSimpArgs false

/-! ### codepoint_Valid: function 36 -/
def codepoint_Valid.f (a0 : ByteArray) : Option (Bool) := if a0.size ≤ 9223372036854775807 then some (Lib.validD a0.data.toList) else none
theorem codepoint_Valid.calls (a0 : ByteArray) (r : Bool) (w : World) (h : codepoint_Valid.f a0 = some r) :
    Calls Try.prog 36 #[.string a0] w fun e w' => e = .returned (.bool r) ∧ Below w.heap.size w w' := by
  unfold codepoint_Valid.f at h
  by_cases hs : a0.size ≤ 9223372036854775807
  · rw [if_pos hs] at h
    obtain rfl := Option.some.inj h
    exact callsIn_wide.1 (cpValid_in 3 (Nat.le_refl _) a0 hs w)
  · rw [if_neg hs] at h
    cases h

end Go.Proofs.Ytcgglamgemgeiaa.Q
/- MkValue -/
namespace Go.Proofs.Ytcgglamgemgeiaa.Q
open Go.RowKit Go.Lib Go.Proofs.YtcgglamgemgeiaaW.PrintWords
theorem any_step_at (s : ByteArray) (p : Nat) (hp : p < s.size) (hv : validD (s.data.toList.drop p) = true) :
    (s.data.toList.drop p).any badB = ((decide ((Utf8.decode s p).1 ≤ 31) || decide ((Utf8.decode s p).1 = 127)) || (s.data.toList.drop (p + (Utf8.decode s p).2)).any badB) := by
  have h := any_unit (s.data.toList.drop p) (drop_ne s p hp) (fun hc => by
    rw [validD_step _ (drop_ne s p hp), if_pos hc] at hv; cases hv)
  rw [decodeL_drop, List.drop_drop] at h
  exact h
set_option maxRecDepth 100000 in
set_option maxHeartbeats 4000000 in
theorem mkValue_calls (s : ByteArray) (w : World) :
    Calls Try.prog 26 #[.string s] w fun e w' => e = .returned (.int .i64 (vv s)) ∧ Below w.heap.size w w' := by
  have HB := Below.refl w.heap.size w
  by_cases h1 : 120 < s.size
  · have h1b : decide ((120 : Int) < (s.size : Int)) = true := decide_eq_true (by omega)
    have hv : vv s = 2 := by unfold vv; rw [if_pos h1]
    go_enter Try.func26, Try.ntmps26
    go_wp2
    go_ret
    exact ⟨by rw [hv]; rfl, HB⟩
  · have h1b : decide ((120 : Int) < (s.size : Int)) = false := decide_eq_false (by omega)
    have hs : s.size ≤ 9223372036854775807 := by omega
    have hf : codepoint_Valid.f s = some (validD s.data.toList) := by unfold codepoint_Valid.f; rw [if_pos hs]
    cases hvd : validD s.data.toList with
    | false =>
      have hv : vv s = 7 := by unfold vv; rw [if_neg h1, if_pos hvd]
      rw [hvd] at hf
      go_enter Try.func26, Try.ntmps26
      go_wp2_with (go_at_call 36; refine (codepoint_Valid.calls _ _ _ hf).mono ?_; rintro e w' ⟨rfl, hb⟩)
      go_ret
      exact ⟨by rw [hv]; rfl, hb⟩
    | true =>
      have hv : vv s = if s.data.toList.any badB = true then 14 else 0 := by unfold vv; rw [if_neg h1, if_neg (by simp [hvd])]
      rw [hvd] at hf
      go_enter Try.func26, Try.ntmps26
      go_wp2_with (go_at_call 36; refine (codepoint_Valid.calls _ _ _ hf).mono ?_; rintro e w1 ⟨rfl, hb⟩)
      have hs1 := hb.size
      go_loopw [4] (fun (_ : Value) wr => ∃ (pos : Nat), wr.heap[w1.heap.size]? = some (.stringIter s pos) ∧ Below w.heap.size w wr ∧ pos ≤ s.size ∧ validD (s.data.toList.drop pos) = true ∧ s.data.toList.any badB = (s.data.toList.drop pos).any badB)
        (fun _ wr => s.size - wr.iterPos w1.heap.size)
      case atStart => exact ⟨0, blk_new w1 _, hb.alloc hs1 _, Nat.zero_le _, hvd, rfl⟩
      case round =>
        obtain ⟨pos, hit, HB1, hle, hvp, hbad⟩ := hrel
        have ip := iterPos_of hit
        have hlt1 := blk_lt hit
        by_cases hp : pos < s.size
        · have hnx : ∀ ty, (Instr.next (.pointer (some ⟨w1.heap.size, 0, none⟩)) true ty).run Try.prog wr = _ := fun ty => run_next_at wr _ s pos ty hit hp
          have hb2 : Below w.heap.size w (wr.putObj w1.heap.size (.stringIter s (pos + (Utf8.decode s pos).2))) := HB1.grown (grownBy_putObj' wr _ _) HB1.size (fun k e => by cases e; exact hs1)
          have hit2 : (wr.putObj w1.heap.size (.stringIter s (pos + (Utf8.decode s pos).2))).heap[w1.heap.size]? = some (.stringIter s (pos + (Utf8.decode s pos).2)) := World.putObj_heap_same hlt1
          have ip2 := iterPos_of hit2
          have hw0 := width_pos s pos
          have hw1 := width_le s pos hp
          have hstep := any_step_at s pos hp hvp
          have hvs := valid_step_at s pos hp
          rw [hvp] at hvs
          have hv2 : validD (s.data.toList.drop (pos + (Utf8.decode s pos).2)) = true := by
            cases h : validD (s.data.toList.drop (pos + (Utf8.decode s pos).2)) with
            | true => rfl
            | false => rw [h, Bool.and_false] at hvs; cases hvs
          clear hvs
          by_cases k1 : (Utf8.decode s pos).1 ≤ 31
          · have k1b : decide (((Utf8.decode s pos).1 : Int) ≤ 31) = true := decide_eq_true (by omega)
            have hv14 : vv s = 14 := by rw [hv, hbad, hstep]; simp [k1]
            go_wp2
            go_ret
            exact ⟨by rw [hv14]; rfl, hb2⟩
          · have k1b : decide (((Utf8.decode s pos).1 : Int) ≤ 31) = false := decide_eq_false (by omega)
            by_cases k2 : (Utf8.decode s pos).1 = 127
            · have k2b : (((Utf8.decode s pos).1 : Int) == 127) = true := beq_iff_eq.2 (by omega)
              have hv14 : vv s = 14 := by rw [hv, hbad, hstep]; simp [k2]
              go_wp2
              go_ret
              exact ⟨by rw [hv14]; rfl, hb2⟩
            · have k2b : (((Utf8.decode s pos).1 : Int) == 127) = false := beq_eq_false_iff_ne.2 (by omega)
              have hbad2 : s.data.toList.any badB = (s.data.toList.drop (pos + (Utf8.decode s pos).2)).any badB := by rw [hbad, hstep]; simp [k1, k2]
              clear hstep hv hbad
              go_wp2
              go_roundw
              case rel => exact ⟨_, hit2, hb2, hw1, hv2, hbad2⟩
              case measure => rw [ip, ip2]; omega
        · have hnx : ∀ ty, (Instr.next (.pointer (some ⟨w1.heap.size, 0, none⟩)) true ty).run Try.prog wr = _ := fun ty => run_next_over wr _ s pos ty hit hp
          have hv0 : vv s = 0 := by rw [hv, hbad, drop_end s pos hp]; rfl
          go_wp2
          go_ret
          exact ⟨by rw [hv0]; rfl, HB1⟩
end Go.Proofs.Ytcgglamgemgeiaa.Q
/- FMarkupValidValue -/
namespace Go.Proofs.Ytcgglamgemgeiaa.Q
open Go.RowKit Go.Proofs.YtcgglamgemgeiaaW.PrintWords Go.Proofs.YtcgglamgemgeiaaW.PrintLast Go.Proofs.YtcgglamgemgeiaaW.PrintMore
attribute [local go_sem] max2_int min2_int max_two min_two max_three min_three max_four min_four   -- for this text's walks alone
set_option linter.unusedVariables false
set_option linter.unusedSimpArgs false

/-! ### markup_ValidValue: function 26 -/
def markup_ValidValue.f (a0 : ByteArray) : Option (Int) := some (vv a0)
theorem markup_ValidValue.calls (a0 : ByteArray) (r : Int) (w : World) (h : markup_ValidValue.f a0 = some r) :
    Calls Try.prog 26 #[.string a0] w fun e w' => e = .returned (.int .i64 r) ∧ Below w.heap.size w w' := by
  obtain rfl := Option.some.inj h
  exact mkValue_calls a0 w

end Go.Proofs.Ytcgglamgemgeiaa.Q
/- FFeatureParse -/
namespace Go.Proofs.Ytcgglamgemgeiaa.Q
open Go.RowKit Go.Proofs.YtcgglamgemgeiaaW.PrintWords Go.Proofs.YtcgglamgemgeiaaW.PrintLast Go.Proofs.YtcgglamgemgeiaaW.PrintMore
attribute [local go_sem] max2_int min2_int max_two min_two max_three min_three max_four min_four   -- for this text's walks alone
set_option linter.unusedVariables false
set_option linter.unusedSimpArgs false

/-! ### feature_Parse: function 12 -/
mutual
def feature_Parse.j0 : Nat → ByteArray → Bool → Option (List ByteArray × Int)
  | 0, _, _ => none
  | k + 1, x0, x31 => if x31 = true then (some (([] : List ByteArray), 3)) else (feature_Parse.l0 k x0 ([] : List ByteArray) 1 1)
def feature_Parse.l0 : Nat → ByteArray → List ByteArray → Int → Int → Option (List ByteArray × Int)
  | 0, _, _, _, _ => none
  | k + 1, x0, x5, x6, x7 => if x7 < (x0.size : Int) then (if 0 ≤ x7 then (if (bt x0 x7) = 124 then (if x7 = x6 then (some (([] : List ByteArray), 3)) else (if 0 ≤ x6 then (if x6 ≤ x7 then (if x7 ≤ (x0.size : Int) then (if x5.length < 8796093022208 then (feature_Parse.l0 k x0 (x5 ++ [x0.extract (x6 : Int).toNat (x7 : Int).toNat]) (wrap64 (x7 + 1)) (wrap64 (x7 + 1))) else (none)) else (none)) else (none)) else (none))) else (feature_Parse.l0 k x0 x5 x6 (wrap64 (x7 + 1)))) else (none)) else (feature_Parse.l1 k x5 1)
def feature_Parse.l1 : Nat → List ByteArray → Int → Option (List ByteArray × Int)
  | 0, _, _ => none
  | k + 1, x5, x8 => if x8 < (x5.length : Int) then (if 0 ≤ (wrap64 (x8 - 1)) then (if (wrap64 (x8 - 1)) < (x5.length : Int) then (if 0 ≤ x8 then (if ((Op.bytesLess ((rdOf ByteArray.empty x5 (wrap64 (x8 - 1))).toList) ((rdOf ByteArray.empty x5 x8).toList)) = true) then (feature_Parse.l1 k x5 (wrap64 (x8 + 1))) else (some (([] : List ByteArray), 6))) else (none)) else (none)) else (none)) else (some (x5, 0))
end
def feature_Parse.f (k : Nat) (a0 : ByteArray) : Option (List ByteArray × Int) := (markup_ValidValue.f a0).bind fun t109 => (if t109 = 0 then (if a0.toList = ([124] : List UInt8) then (some (([] : List ByteArray), 0)) else (if (a0.size : Int) < 2 then (feature_Parse.j0 k a0 true) else (if 0 < (a0.size : Int) then (if (bt a0 0) = 124 then (if 0 ≤ (wrap64 ((a0.size : Int) - 1)) then (if (wrap64 ((a0.size : Int) - 1)) < (a0.size : Int) then (feature_Parse.j0 k a0 ((bt a0 (wrap64 ((a0.size : Int) - 1))) != 124)) else (none)) else (none)) else (feature_Parse.j0 k a0 true)) else (none)))) else (some (([] : List ByteArray), t109)))
theorem feature_Parse.mono_l : ∀ k, (∀ y0 y1, LeO (feature_Parse.j0 k y0 y1) (feature_Parse.j0 (k + 1) y0 y1)) ∧ (∀ y0 y1 y2 y3, LeO (feature_Parse.l0 k y0 y1 y2 y3) (feature_Parse.l0 (k + 1) y0 y1 y2 y3)) ∧ (∀ y0 y1, LeO (feature_Parse.l1 k y0 y1) (feature_Parse.l1 (k + 1) y0 y1))
  | 0 => ⟨fun _ _ r h => by simp [feature_Parse.j0] at h, fun _ _ _ _ r h => by simp [feature_Parse.l0] at h, fun _ _ r h => by simp [feature_Parse.l1] at h⟩
  | k + 1 => by
    obtain ⟨ih0, ih1, ih2⟩ := feature_Parse.mono_l k
    refine ⟨?_, ?_, ?_⟩
    · intro y0 y1
      unfold feature_Parse.j0
      repeat' first
      | (with_reducible exact ih0 _ _)
      | (with_reducible exact ih1 _ _ _ _)
      | (with_reducible exact ih2 _ _)
      | (with_reducible exact LeO.refl _)
      | (with_reducible exact LeO.none _)
      | (with_reducible refine LeO.ite ?_ ?_)
      | (with_reducible refine LeO.bind ?_ (fun _ => ?_))
      | exact ih0 _ _
      | exact ih1 _ _ _ _
      | exact ih2 _ _
      | exact LeO.none _
      | refine LeO.ite ?_ ?_
      | refine LeO.bind ?_ (fun _ => ?_)
    · intro y0 y1 y2 y3
      unfold feature_Parse.l0
      repeat' first
      | (with_reducible exact ih0 _ _)
      | (with_reducible exact ih1 _ _ _ _)
      | (with_reducible exact ih2 _ _)
      | (with_reducible exact LeO.refl _)
      | (with_reducible exact LeO.none _)
      | (with_reducible refine LeO.ite ?_ ?_)
      | (with_reducible refine LeO.bind ?_ (fun _ => ?_))
      | exact ih0 _ _
      | exact ih1 _ _ _ _
      | exact ih2 _ _
      | exact LeO.none _
      | refine LeO.ite ?_ ?_
      | refine LeO.bind ?_ (fun _ => ?_)
    · intro y0 y1
      unfold feature_Parse.l1
      repeat' first
      | (with_reducible exact ih0 _ _)
      | (with_reducible exact ih1 _ _ _ _)
      | (with_reducible exact ih2 _ _)
      | (with_reducible exact LeO.refl _)
      | (with_reducible exact LeO.none _)
      | (with_reducible refine LeO.ite ?_ ?_)
      | (with_reducible refine LeO.bind ?_ (fun _ => ?_))
      | exact ih0 _ _
      | exact ih1 _ _ _ _
      | exact ih2 _ _
      | exact LeO.none _
      | refine LeO.ite ?_ ?_
      | refine LeO.bind ?_ (fun _ => ?_)
theorem feature_Parse.mono : ∀ a0 k, LeO (feature_Parse.f k a0) (feature_Parse.f (k + 1) a0) := by
  intro a0 k
  obtain ⟨ih0, ih1, ih2⟩ := feature_Parse.mono_l k
  unfold feature_Parse.f
  repeat' first
      | (with_reducible exact ih0 _ _)
      | (with_reducible exact ih1 _ _ _ _)
      | (with_reducible exact ih2 _ _)
      | (with_reducible exact LeO.refl _)
      | (with_reducible exact LeO.none _)
      | (with_reducible refine LeO.ite ?_ ?_)
      | (with_reducible refine LeO.bind ?_ (fun _ => ?_))
      | exact ih0 _ _
      | exact ih1 _ _ _ _
      | exact ih2 _ _
      | exact LeO.none _
      | refine LeO.ite ?_ ?_
      | refine LeO.bind ?_ (fun _ => ?_)
set_option maxHeartbeats 8000000 in
set_option maxRecDepth 100000 in
theorem feature_Parse.calls (k : Nat) (a0 : ByteArray) (r1 : List ByteArray) (r2 : Int) (w : World) (h : feature_Parse.f k a0 = some (r1, r2)) :
    Calls Try.prog 12 #[.string a0] w fun e w' => ∃ v0_ : Value, e = .returned (.tuple #[v0_, .int .i64 r2]) ∧ Kd.R Kd.string 9 w' w.heap.size (fun _ => True) v0_ r1 ∧ Below w.heap.size w w' := by
  have HB := Aside0.mk (Below.refl w.heap.size w)
  have H : ((markup_ValidValue.f a0).bind fun t109 => (if t109 = 0 then (if a0.toList = ([124] : List UInt8) then (some (([] : List ByteArray), 0)) else (if (a0.size : Int) < 2 then (feature_Parse.j0 k a0 true) else (if 0 < (a0.size : Int) then (if (bt a0 0) = 124 then (if 0 ≤ (wrap64 ((a0.size : Int) - 1)) then (if (wrap64 ((a0.size : Int) - 1)) < (a0.size : Int) then (feature_Parse.j0 k a0 ((bt a0 (wrap64 ((a0.size : Int) - 1))) != 124)) else (none)) else (none)) else (feature_Parse.j0 k a0 true)) else (none)))) else (some (([] : List ByteArray), t109)))) = some (r1, r2) := h
  clear h
  replace H := Option.bind_eq_some_iff.mp H
  obtain ⟨t109, A20, H⟩ := H
  replace H : (if t109 = 0 then (if a0.toList = ([124] : List UInt8) then (some (([] : List ByteArray), 0)) else (if (a0.size : Int) < 2 then (feature_Parse.j0 k a0 true) else (if 0 < (a0.size : Int) then (if (bt a0 0) = 124 then (if 0 ≤ (wrap64 ((a0.size : Int) - 1)) then (if (wrap64 ((a0.size : Int) - 1)) < (a0.size : Int) then (feature_Parse.j0 k a0 ((bt a0 (wrap64 ((a0.size : Int) - 1))) != 124)) else (none)) else (none)) else (feature_Parse.j0 k a0 true)) else (none)))) else (some (([] : List ByteArray), t109))) = some (r1, r2) := H
  have A2 := Aside0.mk A20
  clear A20
  by_cases c3 : t109 = 0
  · rw [if_pos c3] at H
    have c3b0 : (t109 == 0) = true := beq_iff_eq.mpr c3
    have c3b1 : (t109 != 0) = false := bne_eq_false_iff_eq.mpr c3
    clear c3
    by_cases c4 : a0.toList = ([124] : List UInt8)
    · rw [if_pos c4] at H
      have c4b0 : (a0.toList == ([124] : List UInt8)) = true := beq_iff_eq.mpr c4
      have c4b1 : (a0.toList != ([124] : List UInt8)) = false := bne_eq_false_iff_eq.mpr c4
      clear c4
      simp only [Option.some.injEq, Prod.mk.injEq] at H
      obtain ⟨rfl, rfl⟩ := H
      go_enter Try.func12, Try.ntmps12
      go_wp2_with (first | (go_at_call 26; (with_reducible refine (markup_ValidValue.calls a0 t109 _ A2.out).mono ?_); rintro e w5 ⟨rfl, hb⟩; have n0_ := Aside0.mk (below_step (by repeat (first | (with_reducible first | exact HB.out | apply below_alloc | apply pw_below_drewN | apply below_drew1) | exact HB.out)) hb); clear HB; have HB := n0_; clear n0_; (try clear hb); (try clear hb2); (try clear hk); (try clear hi)))
      repeat (go_quiet (first | (go_at_call 26; (with_reducible refine (markup_ValidValue.calls a0 t109 _ A2.out).mono ?_); rintro e w5 ⟨rfl, hb⟩; have n0_ := Aside0.mk (below_step (by repeat (first | (with_reducible first | exact HB.out | apply below_alloc | apply pw_below_drewN | apply below_drew1) | exact HB.out)) hb); clear HB; have HB := n0_; clear n0_; (try clear hb); (try clear hb2); (try clear hk); (try clear hi))); try go_wp2_with (first | (go_at_call 26; (with_reducible refine (markup_ValidValue.calls a0 t109 _ A2.out).mono ?_); rintro e w5 ⟨rfl, hb⟩; have n0_ := Aside0.mk (below_step (by repeat (first | (with_reducible first | exact HB.out | apply below_alloc | apply pw_below_drewN | apply below_drew1) | exact HB.out)) hb); clear HB; have HB := n0_; clear n0_; (try clear hb); (try clear hb2); (try clear hk); (try clear hi))))
      go_ret2
      exact ⟨_, by first | rfl | (simp [errW_none, errW_some] <;> rfl) | (simp [*, errW_none, errW_some] <;> rfl), by first | exact Kd.R_nil _ _ _ _ _ | exact Kd.N_nil _ _ _ _ _ | exact Kd.V_nil _ _ _ _ _ | exact Kd.Q_nil _ _ _ _ _ | exact Kd.S_nil _ _ _ _ _, by repeat (first | (with_reducible first | exact HB.out | apply below_alloc | apply pw_below_drewN | apply below_drew1) | exact HB.out)⟩
    · rw [if_neg c4] at H
      have c4b0 : (a0.toList == ([124] : List UInt8)) = false := beq_eq_false_iff_ne.mpr c4
      have c4b1 : (a0.toList != ([124] : List UInt8)) = true := bne_iff_ne.mpr c4
      have HC6 := Aside0.mk H
      clear H
      go_enter Try.func12, Try.ntmps12
      go_upto_region 6 with (first | (go_at_call 26; (with_reducible refine (markup_ValidValue.calls a0 t109 _ A2.out).mono ?_); rintro e w7 ⟨rfl, hb⟩; have n0_ := Aside0.mk (below_step (by repeat (first | (with_reducible first | exact HB.out | apply below_alloc | apply pw_below_drewN | apply below_drew1) | exact HB.out)) hb); clear HB; have HB := n0_; clear n0_; (try clear hb); (try clear hb2); (try clear hk); (try clear hi)))
      repeat (go_quiet (first | (go_at_call 26; (with_reducible refine (markup_ValidValue.calls a0 t109 _ A2.out).mono ?_); rintro e w7 ⟨rfl, hb⟩; have n0_ := Aside0.mk (below_step (by repeat (first | (with_reducible first | exact HB.out | apply below_alloc | apply pw_below_drewN | apply below_drew1) | exact HB.out)) hb); clear HB; have HB := n0_; clear n0_; (try clear hb); (try clear hb2); (try clear hk); (try clear hi))); go_upto_region 6 with (first | (go_at_call 26; (with_reducible refine (markup_ValidValue.calls a0 t109 _ A2.out).mono ?_); rintro e w7 ⟨rfl, hb⟩; have n0_ := Aside0.mk (below_step (by repeat (first | (with_reducible first | exact HB.out | apply below_alloc | apply pw_below_drewN | apply below_drew1) | exact HB.out)) hb); clear HB; have HB := n0_; clear n0_; (try clear hb); (try clear hb2); (try clear hk); (try clear hi))))
      (try simp only [Act.put, List.setIfInBounds_toArray, List.set_cons_zero, List.set_cons_succ])
      go_cut [31] (fun v31 wc => ∃ (kq : Nat) (x31_5 : Bool), v31 = .bool x31_5 ∧ Aside0 (feature_Parse.j0 kq a0 x31_5 = some (r1, r2)) ∧ Aside0 (kq ≤ k) ∧ Aside0 (Below w.heap.size w wc))
      case first =>
        have H := HC6.out
        clear HC6
        by_cases c8 : (a0.size : Int) < 2
        · rw [if_pos c8] at H
          have c8b0 : decide ((a0.size : Int) < 2) = true := decide_eq_true c8
          have c8b1 : decide (a0.size < 2) = true := decide_eq_true (by omega)
          clear c8
          (first | rw [c8b0] | (simp only [i64_w, i32_w]; rw [c8b0]) | skip)
          have H' := Aside0.mk H
          clear H
          go_wp2
          repeat (go_quiet (fail); try go_wp2)
          go_meet
          case rel => exact ⟨_, (true), (by first | rfl | (simp; done) | (simp [*]; done)), H', ⟨by first | omega | exact Nat.le_refl _⟩, ⟨by repeat (first | (with_reducible first | exact HB.out | apply below_alloc | apply pw_below_drewN | apply below_drew1) | exact HB.out)⟩⟩
        · rw [if_neg c8] at H
          have c8b0 : decide ((a0.size : Int) < 2) = false := decide_eq_false c8
          have c8b1 : decide (a0.size < 2) = false := decide_eq_false (by omega)
          clear c8
          (first | rw [c8b0] | (simp only [i64_w, i32_w]; rw [c8b0]) | skip)
          by_cases c9 : 0 < (a0.size : Int)
          · rw [if_pos c9] at H
            have c9b0 : decide (0 < (a0.size : Int)) = true := decide_eq_true c9
            have c9b1 : decide (0 < a0.size) = true := decide_eq_true (by omega)
            clear c9
            by_cases c11 : (bt a0 0) = 124
            · rw [if_pos c11] at H
              have c11b0 : ((bt a0 0) == 124) = true := beq_iff_eq.mpr c11
              have c11b1 : ((bt a0 0) != 124) = false := bne_eq_false_iff_eq.mpr c11
              clear c11
              obtain ⟨ji12, hji12⟩ : ∃ j_ : Int, (wrap64 ((a0.size : Int) - 1)) = j_ := ⟨_, rfl⟩
              replace H : (if 0 ≤ (ji12) then (if (ji12) < (a0.size : Int) then (feature_Parse.j0 k a0 ((bt a0 (ji12)) != 124)) else (none)) else (none)) = some (r1, r2) := by first | (rw [hji12] at H; exact H) | (simp only [hji12] at H ⊢; exact H)
              have hji12w : (IntKind.i64.wrap ((a0.size : Int) - 1)) = ji12 := (i64_w _).trans hji12
              by_cases c13 : 0 ≤ (ji12)
              · rw [if_pos c13] at H
                have c13b0 : decide (0 ≤ (ji12)) = true := decide_eq_true c13
                clear c13
                by_cases c14 : (ji12) < (a0.size : Int)
                · rw [if_pos c14] at H
                  have c14b0 : decide ((ji12) < (a0.size : Int)) = true := decide_eq_true c14
                  clear c14
                  have H' := Aside0.mk H
                  clear H
                  have p10 : 0 ≤ (0 : Int) := (by omega)
                  have q10 : 0 < a0.size := (by have : (0 : Int) < (a0.size : Int) := of_decide_eq_true (by first | (with_reducible assumption) | assumption); omega)
                  have hx10 : ∀ h : 0 < a0.size, ((a0[0]'h).toNat : Int) = bt a0 0 := bt_at a0 0
                  clear p10
                  have qi10 : (0 < (a0.size : Int)) = True := eq_true (of_decide_eq_true (by first | (with_reducible assumption) | assumption))
                  replace q10 := eq_true q10
                  have p15 : 0 ≤ ((ji12) : Int) := of_decide_eq_true (by first | (with_reducible assumption) | assumption)
                  have q15 : (ji12) < (a0.size : Int) := of_decide_eq_true (by first | (with_reducible assumption) | assumption)
                  have hx15 := bt_at a0 (ji12)
                  replace p15 := eq_true p15
                  replace q15 := eq_true q15
                  go_wp2
                  repeat (go_quiet (fail); try go_wp2)
                  go_meet
                  case rel => exact ⟨_, (((bt a0 (ji12)) != 124)), (by first | rfl | (simp; done) | (simp only [← hji12] <;> (first | rfl | simp)) | (simp [*]; done)), H', ⟨by first | omega | exact Nat.le_refl _⟩, ⟨by repeat (first | (with_reducible first | exact HB.out | apply below_alloc | apply pw_below_drewN | apply below_drew1) | exact HB.out)⟩⟩
                · rw [if_neg c14] at H
                  exact absurd H (by simp)
              · rw [if_neg c13] at H
                exact absurd H (by simp)
            · rw [if_neg c11] at H
              have c11b0 : ((bt a0 0) == 124) = false := beq_eq_false_iff_ne.mpr c11
              have c11b1 : ((bt a0 0) != 124) = true := bne_iff_ne.mpr c11
              have H' := Aside0.mk H
              clear H
              have p10 : 0 ≤ (0 : Int) := (by omega)
              have q10 : 0 < a0.size := (by have : (0 : Int) < (a0.size : Int) := of_decide_eq_true (by first | (with_reducible assumption) | assumption); omega)
              have hx10 : ∀ h : 0 < a0.size, ((a0[0]'h).toNat : Int) = bt a0 0 := bt_at a0 0
              clear p10
              have qi10 : (0 < (a0.size : Int)) = True := eq_true (of_decide_eq_true (by first | (with_reducible assumption) | assumption))
              replace q10 := eq_true q10
              go_wp2
              repeat (go_quiet (fail); try go_wp2)
              go_meet
              case rel => exact ⟨_, (true), (by first | rfl | (simp; done) | (simp [*]; done)), H', ⟨by first | omega | exact Nat.le_refl _⟩, ⟨by repeat (first | (with_reducible first | exact HB.out | apply below_alloc | apply pw_below_drewN | apply below_drew1) | exact HB.out)⟩⟩
          · rw [if_neg c9] at H
            exact absurd H (by simp)
      case rest =>
        clear HC6
        try clear c1
        try clear p1
        try clear q1
        try clear hx1
        try clear qi1
        try clear p2
        try clear c3
        try clear c3b0
        try clear c3b1
        try clear c4
        try clear c4b0
        try clear c4b1
        try clear p6
        try clear c8
        try clear c8b0
        try clear c8b1
        try clear c9
        try clear c9b0
        try clear c9b1
        try clear p10
        try clear q10
        try clear hx10
        try clear qi10
        try clear c11
        try clear c11b0
        try clear c11b1
        try clear c12
        try clear c13
        try clear c13b0
        try clear c14
        try clear c14b0
        try clear p15
        try clear q15
        try clear hx15
        try clear p10
        try clear p15
        try clear q10
        try clear q15
        obtain ⟨kq, x31_5, rfl, HA, HJ5, HB⟩ := hcut
        cases kq with
        | zero => exact absurd HA.out (by simp [feature_Parse.j0])
        | succ kj5 =>
          have H := HA.out
          clear HA
          simp only [feature_Parse.j0] at H
          by_cases c16 : x31_5 = true
          · subst c16
            have H1 : (some (([] : List ByteArray), 3)) = some (r1, r2) := by rw [if_pos rfl] at H; exact H
            clear H
            have H := H1
            clear H1
            simp only [Option.some.injEq, Prod.mk.injEq] at H
            obtain ⟨rfl, rfl⟩ := H
            go_wp2
            repeat (go_quiet (fail); try go_wp2)
            go_ret2
            exact ⟨_, by first | rfl | (simp [errW_none, errW_some] <;> rfl) | (simp [*, errW_none, errW_some] <;> rfl), by first | exact Kd.R_nil _ _ _ _ _ | exact Kd.N_nil _ _ _ _ _ | exact Kd.V_nil _ _ _ _ _ | exact Kd.Q_nil _ _ _ _ _ | exact Kd.S_nil _ _ _ _ _, by repeat (first | (with_reducible first | exact HB.out | apply below_alloc | apply pw_below_drewN | apply below_drew1) | exact HB.out)⟩
          · replace c16 := Bool.eq_false_iff.mpr c16
            subst c16
            have H1 : (feature_Parse.l0 kj5 a0 ([] : List ByteArray) 1 1) = some (r1, r2) := by rw [if_neg (show ¬ (false = true) by decide)] at H; exact H
            clear H
            have H := H1
            clear H1
            have H' := Aside0.mk H
            clear H
            go_wp2
            repeat (go_quiet (fail); try go_wp2)
            go_loopg [5, 6, 7] kj5 (fun kq v5 v6 v7 w' => ∃ (x5_2 : List ByteArray) (x6_2 : Int) (x7_2 : Int), v6 = .int .i64 x6_2 ∧ v7 = .int .i64 x7_2 ∧ Aside0 (feature_Parse.l0 kq a0 x5_2 x6_2 x7_2 = some (r1, r2)) ∧ Aside0 (kq ≤ kj5) ∧ Aside0 (Kd.R Kd.string 9 w' w.heap.size (fun _ => True) v5 x5_2) ∧ Aside0 (Below w.heap.size w w'))
            case atStart => exact ⟨(([] : List ByteArray)), (1), (1), (by first | rfl | (simp; done) | (simp [*]; done)), (by first | rfl | (simp; done) | (simp [*]; done)), H', ⟨Nat.le_refl _⟩, ⟨by first | exact Kd.R_nil _ _ _ _ _ | exact Kd.N_nil _ _ _ _ _ | exact Kd.V_nil _ _ _ _ _ | exact Kd.Q_nil _ _ _ _ _ | exact Kd.S_nil _ _ _ _ _⟩, ⟨by repeat (first | (with_reducible first | exact HB.out | apply below_alloc | apply pw_below_drewN | apply below_drew1) | exact HB.out)⟩⟩
            case round =>
              clear H'
              try clear c1
              try clear p1
              try clear q1
              try clear hx1
              try clear qi1
              try clear p2
              try clear c3
              try clear c3b0
              try clear c3b1
              try clear c4
              try clear c4b0
              try clear c4b1
              try clear p6
              try clear c8
              try clear c8b0
              try clear c8b1
              try clear c9
              try clear c9b0
              try clear c9b1
              try clear p10
              try clear q10
              try clear hx10
              try clear qi10
              try clear c11
              try clear c11b0
              try clear c11b1
              try clear c12
              try clear c13
              try clear c13b0
              try clear c14
              try clear c14b0
              try clear p15
              try clear q15
              try clear hx15
              try clear c16
              try clear p1
              try clear p10
              try clear p15
              try clear p2
              try clear p6
              try clear q1
              try clear q10
              try clear q15
              obtain ⟨x5_2, x6_2, x7_2, rfl, rfl, HA, HK2, HO_5, HB⟩ := hrel
              cases gk with
              | zero => exact absurd HA.out (by simp [feature_Parse.l0])
              | succ k2 =>
                have H := HA.out
                clear HA
                simp only [feature_Parse.l0] at H
                by_cases c17 : x7_2 < (a0.size : Int)
                · rw [if_pos c17] at H
                  have c17b0 : decide (x7_2 < (a0.size : Int)) = true := decide_eq_true c17
                  clear c17
                  by_cases c18 : 0 ≤ x7_2
                  · rw [if_pos c18] at H
                    have c18b0 : decide (0 ≤ x7_2) = true := decide_eq_true c18
                    clear c18
                    by_cases c20 : (bt a0 x7_2) = 124
                    · rw [if_pos c20] at H
                      have c20b0 : ((bt a0 x7_2) == 124) = true := beq_iff_eq.mpr c20
                      have c20b1 : ((bt a0 x7_2) != 124) = false := bne_eq_false_iff_eq.mpr c20
                      clear c20
                      by_cases c21 : x7_2 = x6_2
                      · rw [if_pos c21] at H
                        have c21b0 : (x7_2 == x6_2) = true := beq_iff_eq.mpr c21
                        have c21b1 : (x7_2 != x6_2) = false := bne_eq_false_iff_eq.mpr c21
                        clear c21
                        simp only [Option.some.injEq, Prod.mk.injEq] at H
                        obtain ⟨rfl, rfl⟩ := H
                        have p19 : 0 ≤ (x7_2 : Int) := of_decide_eq_true (by first | (with_reducible assumption) | assumption)
                        have q19 : x7_2 < (a0.size : Int) := of_decide_eq_true (by first | (with_reducible assumption) | assumption)
                        have hx19 := bt_at a0 x7_2
                        replace p19 := eq_true p19
                        replace q19 := eq_true q19
                        go_wp2
                        repeat (go_quiet (fail); try go_wp2)
                        go_ret2
                        exact ⟨_, by first | rfl | (simp [errW_none, errW_some] <;> rfl) | (simp [*, errW_none, errW_some] <;> rfl), by first | exact Kd.R_nil _ _ _ _ _ | exact Kd.N_nil _ _ _ _ _ | exact Kd.V_nil _ _ _ _ _ | exact Kd.Q_nil _ _ _ _ _ | exact Kd.S_nil _ _ _ _ _, by repeat (first | (with_reducible first | exact HB.out | apply below_alloc | apply pw_below_drewN | apply below_drew1) | exact HB.out)⟩
                      · rw [if_neg c21] at H
                        have c21b0 : (x7_2 == x6_2) = false := beq_eq_false_iff_ne.mpr c21
                        have c21b1 : (x7_2 != x6_2) = true := bne_iff_ne.mpr c21
                        by_cases c22 : 0 ≤ x6_2
                        · rw [if_pos c22] at H
                          have c22b0 := eq_true c22
                          have c22b1 : decide (0 ≤ x6_2) = true := decide_eq_true c22
                          clear c22
                          by_cases c23 : x6_2 ≤ x7_2
                          · rw [if_pos c23] at H
                            have c23b0 := eq_true c23
                            have c23b1 : decide (x6_2 ≤ x7_2) = true := decide_eq_true c23
                            clear c23
                            by_cases c24 : x7_2 ≤ (a0.size : Int)
                            · rw [if_pos c24] at H
                              have c24b0 := eq_true c24
                              have c24b1 : decide (x7_2 ≤ (a0.size : Int)) = true := decide_eq_true c24
                              clear c24
                              by_cases c25 : x5_2.length < 8796093022208
                              · rw [if_pos c25] at H
                                have LMc25 := Aside0.mk c25
                                clear c25
                                obtain ⟨y110, hy110⟩ : ∃ y_ : List ByteArray, y_ = (x5_2 ++ [a0.extract (x6_2 : Int).toNat (x7_2 : Int).toNat]) := ⟨_, rfl⟩
                                replace H : (feature_Parse.l0 k2 a0 y110 (wrap64 (x7_2 + 1)) (wrap64 (x7_2 + 1))) = some (r1, r2) := by first | (rw [hy110]; with_reducible exact H) | (have H2_ := (Option.bind_some _ _).symm.trans H; rw [hy110]; with_reducible exact H2_) | (have H2_ := (Option.bind_some _ _).symm.trans H; with_reducible exact H2_) | with_reducible exact H | (rw [hy110]; exact H) | exact H
                                have Ny110 := Aside0.mk hy110
                                clear hy110
                                have H' := Aside0.mk H
                                clear H
                                have p19 : 0 ≤ (x7_2 : Int) := of_decide_eq_true (by first | (with_reducible assumption) | assumption)
                                have q19 : x7_2 < (a0.size : Int) := of_decide_eq_true (by first | (with_reducible assumption) | assumption)
                                have hx19 := bt_at a0 x7_2
                                replace p19 := eq_true p19
                                replace q19 := eq_true q19
                                go_wp2_with (first | ((with_reducible refine gate_builtin (b := .append) (xs := #[.tmp 45, .tmp 50]) rfl ?_); (try (refine gate_guard (by rfl) ?_; dsimp only)); at_builtin; refine Kd.R_append Kd.string (w0 := w) w.heap.size rfl (.tmp 45) (.tmp 50) 23 9 (.string ⟨#[]⟩) 16 rfl Try.underlying23 info9 rfl (by decide) (by omega) u5 x5_2 (a0.extract (x6_2 : Int).toNat (x7_2 : Int).toNat) [.string (a0.extract (x6_2 : Int).toNat (x7_2 : Int).toNat)] (fun _ => True) (fun _ => False) rfl rfl ?aP (fun _ hk => hk.elim) ?aF ?aO ?aB ?aS ?aL ?_; (case aP => exact rfl); (case aB => exact (by repeat (first | (with_reducible first | exact HB.out | apply below_alloc | apply pw_below_drewN | apply below_drew1) | exact HB.out))); (case aF => exact (fun _ _ => trivial)); (case aO => exact (by (with_reducible repeat (first | apply Kd.R_alloc | apply Kd.R_drewN | apply Kd.R_drew)); exact HO_5.out)); (case aS => exact (below_size (by repeat (first | (with_reducible first | exact HB.out | apply below_alloc | apply pw_below_drewN | apply below_drew1) | exact HB.out)))); (case aL => have := LMc25.out; omega); intro v111 w26 ho hb hg hat; rw [← Ny110.out] at ho; have n0_ := Aside0.mk (hb); have n1_ := Aside0.mk (ho); clear HB; clear HO_5; have HB := n0_; have HO112 := n1_; clear n0_ n1_; clear ho hb hg hat))
                                repeat (go_quiet (first | ((with_reducible refine gate_builtin (b := .append) (xs := #[.tmp 45, .tmp 50]) rfl ?_); (try (refine gate_guard (by rfl) ?_; dsimp only)); at_builtin; refine Kd.R_append Kd.string (w0 := w) w.heap.size rfl (.tmp 45) (.tmp 50) 23 9 (.string ⟨#[]⟩) 16 rfl Try.underlying23 info9 rfl (by decide) (by omega) u5 x5_2 (a0.extract (x6_2 : Int).toNat (x7_2 : Int).toNat) [.string (a0.extract (x6_2 : Int).toNat (x7_2 : Int).toNat)] (fun _ => True) (fun _ => False) rfl rfl ?aP (fun _ hk => hk.elim) ?aF ?aO ?aB ?aS ?aL ?_; (case aP => exact rfl); (case aB => exact (by repeat (first | (with_reducible first | exact HB.out | apply below_alloc | apply pw_below_drewN | apply below_drew1) | exact HB.out))); (case aF => exact (fun _ _ => trivial)); (case aO => exact (by (with_reducible repeat (first | apply Kd.R_alloc | apply Kd.R_drewN | apply Kd.R_drew)); exact HO_5.out)); (case aS => exact (below_size (by repeat (first | (with_reducible first | exact HB.out | apply below_alloc | apply pw_below_drewN | apply below_drew1) | exact HB.out)))); (case aL => have := LMc25.out; omega); intro v111 w26 ho hb hg hat; rw [← Ny110.out] at ho; have n0_ := Aside0.mk (hb); have n1_ := Aside0.mk (ho); clear HB; clear HO_5; have HB := n0_; have HO112 := n1_; clear n0_ n1_; clear ho hb hg hat)); try go_wp2_with (first | ((with_reducible refine gate_builtin (b := .append) (xs := #[.tmp 45, .tmp 50]) rfl ?_); (try (refine gate_guard (by rfl) ?_; dsimp only)); at_builtin; refine Kd.R_append Kd.string (w0 := w) w.heap.size rfl (.tmp 45) (.tmp 50) 23 9 (.string ⟨#[]⟩) 16 rfl Try.underlying23 info9 rfl (by decide) (by omega) u5 x5_2 (a0.extract (x6_2 : Int).toNat (x7_2 : Int).toNat) [.string (a0.extract (x6_2 : Int).toNat (x7_2 : Int).toNat)] (fun _ => True) (fun _ => False) rfl rfl ?aP (fun _ hk => hk.elim) ?aF ?aO ?aB ?aS ?aL ?_; (case aP => exact rfl); (case aB => exact (by repeat (first | (with_reducible first | exact HB.out | apply below_alloc | apply pw_below_drewN | apply below_drew1) | exact HB.out))); (case aF => exact (fun _ _ => trivial)); (case aO => exact (by (with_reducible repeat (first | apply Kd.R_alloc | apply Kd.R_drewN | apply Kd.R_drew)); exact HO_5.out)); (case aS => exact (below_size (by repeat (first | (with_reducible first | exact HB.out | apply below_alloc | apply pw_below_drewN | apply below_drew1) | exact HB.out)))); (case aL => have := LMc25.out; omega); intro v111 w26 ho hb hg hat; rw [← Ny110.out] at ho; have n0_ := Aside0.mk (hb); have n1_ := Aside0.mk (ho); clear HB; clear HO_5; have HB := n0_; have HO112 := n1_; clear n0_ n1_; clear ho hb hg hat)))
                                go_roundg k2
                                case measure => have := HJ5.out; have := HK2.out; omega
                                case rel => exact ⟨(y110), (wrap64 (x7_2 + 1)), (wrap64 (x7_2 + 1)), (by first | rfl | (simp; done) | (simp [*]; done)), (by first | rfl | (simp; done) | (simp [*]; done)), H', ⟨by have := HJ5.out; have := HK2.out; omega⟩, ⟨by (with_reducible repeat (first | apply Kd.R_alloc | apply Kd.R_drewN | apply Kd.R_drew)); exact HO112.out⟩, ⟨by repeat (first | (with_reducible first | exact HB.out | apply below_alloc | apply pw_below_drewN | apply below_drew1) | exact HB.out)⟩⟩
                              · rw [if_neg c25] at H
                                exact absurd H (by simp)
                            · rw [if_neg c24] at H
                              exact absurd H (by simp)
                          · rw [if_neg c23] at H
                            exact absurd H (by simp)
                        · rw [if_neg c22] at H
                          exact absurd H (by simp)
                    · rw [if_neg c20] at H
                      have c20b0 : ((bt a0 x7_2) == 124) = false := beq_eq_false_iff_ne.mpr c20
                      have c20b1 : ((bt a0 x7_2) != 124) = true := bne_iff_ne.mpr c20
                      have H' := Aside0.mk H
                      clear H
                      have p19 : 0 ≤ (x7_2 : Int) := of_decide_eq_true (by first | (with_reducible assumption) | assumption)
                      have q19 : x7_2 < (a0.size : Int) := of_decide_eq_true (by first | (with_reducible assumption) | assumption)
                      have hx19 := bt_at a0 x7_2
                      replace p19 := eq_true p19
                      replace q19 := eq_true q19
                      go_wp2
                      repeat (go_quiet (fail); try go_wp2)
                      go_roundg k2
                      case measure => have := HJ5.out; have := HK2.out; omega
                      case rel => exact ⟨(x5_2), (x6_2), (wrap64 (x7_2 + 1)), (by first | rfl | (simp; done) | (simp [*]; done)), (by first | rfl | (simp; done) | (simp [*]; done)), H', ⟨by have := HJ5.out; have := HK2.out; omega⟩, ⟨by (with_reducible repeat (first | apply Kd.R_alloc | apply Kd.R_drewN | apply Kd.R_drew)); exact HO_5.out⟩, ⟨by repeat (first | (with_reducible first | exact HB.out | apply below_alloc | apply pw_below_drewN | apply below_drew1) | exact HB.out)⟩⟩
                  · rw [if_neg c18] at H
                    exact absurd H (by simp)
                · rw [if_neg c17] at H
                  have c17b0 : decide (x7_2 < (a0.size : Int)) = false := decide_eq_false c17
                  clear c17
                  have H' := Aside0.mk H
                  clear H
                  go_wp2
                  repeat (go_quiet (fail); try go_wp2)
                  go_loopg [8] k2 (fun kq v8 w' => ∃ (x8_3 : Int), v8 = .int .i64 x8_3 ∧ Aside0 (feature_Parse.l1 kq x5_2 x8_3 = some (r1, r2)) ∧ Aside0 (kq ≤ k2) ∧ Aside0 (Kd.R Kd.string 9 w' w.heap.size (fun _ => True) u5 x5_2) ∧ Aside0 (Below w.heap.size w w'))
                  case atStart => exact ⟨(1), (by first | rfl | (simp; done) | (simp [*]; done)), H', ⟨Nat.le_refl _⟩, ⟨by (with_reducible repeat (first | apply Kd.R_alloc | apply Kd.R_drewN | apply Kd.R_drew)); exact HO_5.out⟩, ⟨by repeat (first | (with_reducible first | exact HB.out | apply below_alloc | apply pw_below_drewN | apply below_drew1) | exact HB.out)⟩⟩
                  case round =>
                    clear H'
                    try clear c1
                    try clear p1
                    try clear q1
                    try clear hx1
                    try clear qi1
                    try clear c2
                    try clear p2
                    try clear c3
                    try clear c3b0
                    try clear c3b1
                    try clear c4
                    try clear c4b0
                    try clear c4b1
                    try clear p6
                    try clear c8
                    try clear c8b0
                    try clear c8b1
                    try clear c9
                    try clear c9b0
                    try clear c9b1
                    try clear p10
                    try clear q10
                    try clear hx10
                    try clear qi10
                    try clear c11
                    try clear c11b0
                    try clear c11b1
                    try clear c12
                    try clear c13
                    try clear c13b0
                    try clear c14
                    try clear c14b0
                    try clear p15
                    try clear q15
                    try clear hx15
                    try clear c16
                    try clear c17
                    try clear c17b0
                    try clear c18
                    try clear c18b0
                    try clear p19
                    try clear q19
                    try clear hx19
                    try clear c20
                    try clear c20b0
                    try clear c20b1
                    try clear c21
                    try clear c21b0
                    try clear c21b1
                    try clear c22
                    try clear c22b0
                    try clear c22b1
                    try clear c23
                    try clear c23b0
                    try clear c23b1
                    try clear c24
                    try clear c24b0
                    try clear c24b1
                    try clear c25
                    try clear p1
                    try clear p10
                    try clear p15
                    try clear p19
                    try clear p2
                    try clear p6
                    try clear q1
                    try clear q10
                    try clear q15
                    try clear q19
                    obtain ⟨x8_3, rfl, HA, HK3, HO_5, HB⟩ := hrel
                    cases gk with
                    | zero => exact absurd HA.out (by simp [feature_Parse.l1])
                    | succ k3 =>
                      have H := HA.out
                      clear HA
                      simp only [feature_Parse.l1] at H
                      by_cases c27 : x8_3 < (x5_2.length : Int)
                      · rw [if_pos c27] at H
                        have c27b0 : decide (x8_3 < (x5_2.length : Int)) = true := decide_eq_true c27
                        clear c27
                        obtain ⟨ji28, hji28⟩ : ∃ j_ : Int, (wrap64 (x8_3 - 1)) = j_ := ⟨_, rfl⟩
                        replace H : (if 0 ≤ (ji28) then (if (ji28) < (x5_2.length : Int) then (if 0 ≤ x8_3 then (if ((Op.bytesLess ((rdOf ByteArray.empty x5_2 (ji28)).toList) ((rdOf ByteArray.empty x5_2 x8_3).toList)) = true) then (feature_Parse.l1 k3 x5_2 (wrap64 (x8_3 + 1))) else (some (([] : List ByteArray), 6))) else (none)) else (none)) else (none)) = some (r1, r2) := by first | (rw [hji28] at H; exact H) | (simp only [hji28] at H ⊢; exact H)
                        have hji28w : (IntKind.i64.wrap (x8_3 - 1)) = ji28 := (i64_w _).trans hji28
                        by_cases c29 : 0 ≤ (ji28)
                        · rw [if_pos c29] at H
                          have c29b0 : decide (0 ≤ (ji28)) = true := decide_eq_true c29
                          clear c29
                          by_cases c30 : (ji28) < (x5_2.length : Int)
                          · rw [if_pos c30] at H
                            have c30b0 : decide ((ji28) < (x5_2.length : Int)) = true := decide_eq_true c30
                            clear c30
                            by_cases c31 : 0 ≤ x8_3
                            · rw [if_pos c31] at H
                              have c31b0 : decide (0 ≤ x8_3) = true := decide_eq_true c31
                              clear c31
                              by_cases c32 : ((Op.bytesLess ((rdOf ByteArray.empty x5_2 (ji28)).toList) ((rdOf ByteArray.empty x5_2 x8_3).toList)) = true)
                              · rw [if_pos c32] at H
                                have c32b0 : (Op.bytesLess ((rdOf ByteArray.empty x5_2 (ji28)).toList) ((rdOf ByteArray.empty x5_2 x8_3).toList)) = true := c32
                                clear c32
                                have H' := Aside0.mk H
                                clear H
                                obtain ⟨Ao33, co33, eo33⟩ := Kd.R_slice HO_5.out
                                subst eo33
                                have p113 : 0 ≤ ((ji28) : Int) := of_decide_eq_true (by first | (with_reducible assumption) | assumption)
                                have q113 : (ji28) < (x5_2.length : Int) := of_decide_eq_true (by first | (with_reducible assumption) | assumption)
                                obtain ⟨ad113, e113, hx113_0⟩ := Kd.at_string (Kd.R_reads' HO_5.out).2.2 (ji28) p113 q113
                                cases e113
                                replace p113 := eq_true p113
                                replace q113 := eq_true q113
                                have p114 : 0 ≤ (x8_3 : Int) := of_decide_eq_true (by first | (with_reducible assumption) | assumption)
                                have q114 : x8_3 < (x5_2.length : Int) := of_decide_eq_true (by first | (with_reducible assumption) | assumption)
                                obtain ⟨ad114, e114, hx114_0⟩ := Kd.at_string (Kd.R_reads' HO_5.out).2.2 x8_3 p114 q114
                                obtain rfl : ad113 = ad114 := (by injection e114)
                                replace p114 := eq_true p114
                                replace q114 := eq_true q114
                                go_wp2
                                repeat (go_quiet (fail); try go_wp2)
                                go_roundg k3
                                case measure => have := HJ5.out; have := HK2.out; have := HK3.out; omega
                                case rel => exact ⟨(wrap64 (x8_3 + 1)), (by first | rfl | (simp; done) | (simp [*]; done)), H', ⟨by have := HJ5.out; have := HK2.out; have := HK3.out; omega⟩, ⟨by (with_reducible repeat (first | apply Kd.R_alloc | apply Kd.R_drewN | apply Kd.R_drew)); exact HO_5.out⟩, ⟨by repeat (first | (with_reducible first | exact HB.out | apply below_alloc | apply pw_below_drewN | apply below_drew1) | exact HB.out)⟩⟩
                              · rw [if_neg c32] at H
                                have c32b0 : (Op.bytesLess ((rdOf ByteArray.empty x5_2 (ji28)).toList) ((rdOf ByteArray.empty x5_2 x8_3).toList)) = false := by simpa using c32
                                clear c32
                                simp only [Option.some.injEq, Prod.mk.injEq] at H
                                obtain ⟨rfl, rfl⟩ := H
                                obtain ⟨Ao34, co34, eo34⟩ := Kd.R_slice HO_5.out
                                subst eo34
                                have p113 : 0 ≤ ((ji28) : Int) := of_decide_eq_true (by first | (with_reducible assumption) | assumption)
                                have q113 : (ji28) < (x5_2.length : Int) := of_decide_eq_true (by first | (with_reducible assumption) | assumption)
                                obtain ⟨ad113, e113, hx113_0⟩ := Kd.at_string (Kd.R_reads' HO_5.out).2.2 (ji28) p113 q113
                                cases e113
                                replace p113 := eq_true p113
                                replace q113 := eq_true q113
                                have p114 : 0 ≤ (x8_3 : Int) := of_decide_eq_true (by first | (with_reducible assumption) | assumption)
                                have q114 : x8_3 < (x5_2.length : Int) := of_decide_eq_true (by first | (with_reducible assumption) | assumption)
                                obtain ⟨ad114, e114, hx114_0⟩ := Kd.at_string (Kd.R_reads' HO_5.out).2.2 x8_3 p114 q114
                                obtain rfl : ad113 = ad114 := (by injection e114)
                                replace p114 := eq_true p114
                                replace q114 := eq_true q114
                                go_wp2
                                repeat (go_quiet (fail); try go_wp2)
                                go_ret2
                                exact ⟨_, by first | rfl | (simp [errW_none, errW_some] <;> rfl) | (simp only [← hji28]; first | rfl | (simp [errW_none, errW_some] <;> rfl)) | (simp [*, errW_none, errW_some] <;> rfl), by first | exact Kd.R_nil _ _ _ _ _ | exact Kd.N_nil _ _ _ _ _ | exact Kd.V_nil _ _ _ _ _ | exact Kd.Q_nil _ _ _ _ _ | exact Kd.S_nil _ _ _ _ _, by repeat (first | (with_reducible first | exact HB.out | apply below_alloc | apply pw_below_drewN | apply below_drew1) | exact HB.out)⟩
                            · rw [if_neg c31] at H
                              exact absurd H (by simp)
                          · rw [if_neg c30] at H
                            exact absurd H (by simp)
                        · rw [if_neg c29] at H
                          exact absurd H (by simp)
                      · rw [if_neg c27] at H
                        have c27b0 : decide (x8_3 < (x5_2.length : Int)) = false := decide_eq_false c27
                        clear c27
                        simp only [Option.some.injEq, Prod.mk.injEq] at H
                        obtain ⟨rfl, rfl⟩ := H
                        obtain ⟨Ao35, co35, eo35⟩ := Kd.R_slice HO_5.out
                        subst eo35
                        go_wp2
                        repeat (go_quiet (fail); try go_wp2)
                        go_ret2
                        exact ⟨_, by first | rfl | (simp [errW_none, errW_some] <;> rfl) | (simp [*, errW_none, errW_some] <;> rfl), by (with_reducible repeat (first | apply Kd.R_alloc | apply Kd.R_drewN | apply Kd.R_drew)); exact HO_5.out, by repeat (first | (with_reducible first | exact HB.out | apply below_alloc | apply pw_below_drewN | apply below_drew1) | exact HB.out)⟩
  · rw [if_neg c3] at H
    have c3b0 : (t109 == 0) = false := beq_eq_false_iff_ne.mpr c3
    have c3b1 : (t109 != 0) = true := bne_iff_ne.mpr c3
    simp only [Option.some.injEq, Prod.mk.injEq] at H
    obtain ⟨rfl, rfl⟩ := H
    go_enter Try.func12, Try.ntmps12
    go_wp2_with (first | (go_at_call 26; (with_reducible refine (markup_ValidValue.calls a0 t109 _ A2.out).mono ?_); rintro e w36 ⟨rfl, hb⟩; have n0_ := Aside0.mk (below_step (by repeat (first | (with_reducible first | exact HB.out | apply below_alloc | apply pw_below_drewN | apply below_drew1) | exact HB.out)) hb); clear HB; have HB := n0_; clear n0_; (try clear hb); (try clear hb2); (try clear hk); (try clear hi)))
    repeat (go_quiet (first | (go_at_call 26; (with_reducible refine (markup_ValidValue.calls a0 t109 _ A2.out).mono ?_); rintro e w36 ⟨rfl, hb⟩; have n0_ := Aside0.mk (below_step (by repeat (first | (with_reducible first | exact HB.out | apply below_alloc | apply pw_below_drewN | apply below_drew1) | exact HB.out)) hb); clear HB; have HB := n0_; clear n0_; (try clear hb); (try clear hb2); (try clear hk); (try clear hi))); try go_wp2_with (first | (go_at_call 26; (with_reducible refine (markup_ValidValue.calls a0 t109 _ A2.out).mono ?_); rintro e w36 ⟨rfl, hb⟩; have n0_ := Aside0.mk (below_step (by repeat (first | (with_reducible first | exact HB.out | apply below_alloc | apply pw_below_drewN | apply below_drew1) | exact HB.out)) hb); clear HB; have HB := n0_; clear n0_; (try clear hb); (try clear hb2); (try clear hk); (try clear hi))))
    go_ret2
    exact ⟨_, by first | rfl | (simp [errW_none, errW_some] <;> rfl) | (simp [*, errW_none, errW_some] <;> rfl), by first | exact Kd.R_nil _ _ _ _ _ | exact Kd.N_nil _ _ _ _ _ | exact Kd.V_nil _ _ _ _ _ | exact Kd.Q_nil _ _ _ _ _ | exact Kd.S_nil _ _ _ _ _, by repeat (first | (with_reducible first | exact HB.out | apply below_alloc | apply pw_below_drewN | apply below_drew1) | exact HB.out)⟩

end Go.Proofs.Ytcgglamgemgeiaa.Q
/- QUnit -/
namespace Go.Proofs.Ytcgglamgemgeiaa.Q
open Go.RowKit Go.Proofs.YtcgglamgemgeiaaW.PrintWords Go.Proofs.YtcgglamgemgeiaaW.PrintLast Go.Proofs.YtcgglamgemgeiaaW.PrintMore
theorem info56 : (Try.prog.info? 56).map (fun i => (i.zero, i.size, i.bytes)) = some (some (.agg #[(.int .i32 0), (.int .i64 0), (.int .i64 0), (.bool false)]), 4, 32) := by kernel_rfl
/-! #### struct type 56 -/
structure S56 where
  f0 : Int
  f1 : Int
  f2 : Int
  f3 : Bool
def z56 : S56 := ⟨(0 : Int), (0 : Int), (0 : Int), false⟩
def k56 : Kd S56 := Kd.iso (Kd.pair (Kd.int .i32) (Kd.pair (Kd.int .i64) (Kd.pair (Kd.int .i64) Kd.bool))) (fun x : S56 => (x.f0, x.f1, x.f2, x.f3))
theorem k56_open {w : World} {x : S56} {cs : List Value} (h : k56.K w x cs) : cs = [.int .i32 x.f0, .int .i64 x.f1, .int .i64 x.f2, .bool x.f3] := by
  obtain ⟨_, _, rfl, rfl, ⟨_, _, rfl, rfl, ⟨_, _, rfl, rfl, rfl⟩⟩⟩ := h
  exact rfl
theorem k56_openM {w : World} {base : Nat} {ok : Nat → Prop} {x : S56} {cs : List Value} (h : k56.M w base ok x cs) : cs = [.int .i32 x.f0, .int .i64 x.f1, .int .i64 x.f2, .bool x.f3] := by
  obtain ⟨_, _, rfl, rfl, ⟨_, _, rfl, rfl, ⟨_, _, rfl, rfl, rfl⟩⟩⟩ := h
  exact rfl
theorem k56_mk (w : World) (x : S56)  : k56.K w x [.int .i32 x.f0, .int .i64 x.f1, .int .i64 x.f2, .bool x.f3] := ⟨[.int .i32 x.f0], [.int .i64 x.f1, .int .i64 x.f2, .bool x.f3], rfl, rfl, ⟨[.int .i64 x.f1], [.int .i64 x.f2, .bool x.f3], rfl, rfl, ⟨[.int .i64 x.f2], [.bool x.f3], rfl, rfl, rfl⟩⟩⟩
theorem k56_mkM (w : World) (base : Nat) (ok : Nat → Prop) (x : S56)  : k56.M w base ok x [.int .i32 x.f0, .int .i64 x.f1, .int .i64 x.f2, .bool x.f3] := ⟨[.int .i32 x.f0], [.int .i64 x.f1, .int .i64 x.f2, .bool x.f3], rfl, rfl, ⟨[.int .i64 x.f1], [.int .i64 x.f2, .bool x.f3], rfl, rfl, ⟨[.int .i64 x.f2], [.bool x.f3], rfl, rfl, rfl⟩⟩⟩
def rd_T56 (xs : List S56) (i : Int) : S56 := xs.getD i.toNat z56
theorem at_T56 {w : World} {A : Option Addr} {n : Nat} {xs : List S56} (h : Kd.C k56 w A n xs) (i : Int) (h0 : 0 ≤ i) (h1 : i < n) : ∃ ad , A = some ad ∧ w.cell? (ad.add (i.toNat * 4)) = some (.int .i32 (rd_T56 xs i).f0) ∧ w.cell? ⟨(ad.add (i.toNat * 4)).block, (ad.add (i.toNat * 4)).off + 1, none⟩ = some (.int .i64 (rd_T56 xs i).f1) ∧ w.cell? ⟨(ad.add (i.toNat * 4)).block, (ad.add (i.toNat * 4)).off + 2, none⟩ = some (.int .i64 (rd_T56 xs i).f2) ∧ w.cell? ⟨(ad.add (i.toNat * 4)).block, (ad.add (i.toNat * 4)).off + 3, none⟩ = some (.bool (rd_T56 xs i).f3) := by
  obtain ⟨ad, c, e, _, hK, hc0⟩ := Kd.C_get h z56 i h0 h1
  have hc : ∀ j u, c[j]? = some u → w.cell? (ad.add (i.toNat * 4 + j)) = some u := hc0
  obtain rfl := k56_open hK
  exact ⟨ad, e, hc 0 _ rfl, by rw [← add_field _ _ 1 (by omega)]; exact hc 1 _ rfl, by rw [← add_field _ _ 2 (by omega)]; exact hc 2 _ rfl, by rw [← add_field _ _ 3 (by omega)]; exact hc 3 _ rfl⟩
end Go.Proofs.Ytcgglamgemgeiaa.Q
/- Range -/
namespace Go.Proofs.Ytcgglamgemgeiaa.Q
open Go.RowKit Go.Lib Go.Proofs.YtcgglamgemgeiaaW.PrintWords Go.Proofs.YtcgglamgemgeiaaW.PrintLast
/-- The rune at a place, and how many bytes it takes. -/
def rn_ (s : ByteArray) (p : Int) : Int := ((Utf8.decode s p.toNat).1 : Int)
def wd_ (s : ByteArray) (p : Int) : Int := ((Utf8.decode s p.toNat).2 : Int)
theorem wd_nn (s : ByteArray) (p : Int) : 0 ≤ wd_ s p := Int.natCast_nonneg _
theorem iter_size (w : World) (s : ByteArray) (p : Nat) : (w.iter s p).heap.size = w.heap.size + 1 := by simp [World.iter]
theorem next_rn {P : Program} (W : World) (b : Nat) (s : ByteArray) (x : Int) (ty : TypeId) (h0 : 0 ≤ x) (hW : W.heap[b]? = some (.stringIter s x.toNat)) (h : x.toNat < s.size) :
    (Instr.next (.pointer (some ⟨b, 0, none⟩)) true ty).run P W = .ok (.tuple #[.bool true, .int .i64 x, .int .i32 (rn_ s x)]) (W.putObj b (.stringIter s (x + wd_ s x).toNat)) := by
  have e1 : ((x.toNat : Nat) : Int) = x := Int.toNat_of_nonneg h0
  have e2 : (x + wd_ s x).toNat = x.toNat + (Utf8.decode s x.toNat).2 := by unfold wd_; omega
  have := run_next_at (P := P) W b s x.toNat ty hW h
  rw [e1, ← e2] at this
  exact this
theorem turn_below (w wr : World) (s : ByteArray) (p q : Nat) (h : Below (w.iter s p).heap.size (w.iter s p) wr) : Below (w.iter s q).heap.size (w.iter s q) (wr.putObj w.heap.size (.stringIter s q)) := by
  have hs := iter_size w s p
  have hq := iter_size w s q
  have h1 := h.size
  refine ⟨h.os, h.tape, h.output, by rw [World.putObj_size]; omega, fun k hk => ?_⟩
  by_cases e : k = w.heap.size
  · subst e
    rw [World.putObj_heap_same (by omega), World.iter_heap]
  · rw [World.putObj_heap_other e, h.block k (by omega)]
    have a1 := Below.heap_alloc w (.stringIter s p) k (by omega)
    have a2 := Below.heap_alloc w (.stringIter s q) k (by omega)
    exact a1.trans a2.symm
theorem turn_R {α : Type} {d : Kd α} {e : Nat} {ok : Nat → Prop} {v : Value} {xs : List α} (w wr : World) (s : ByteArray) (p q : Nat) (h : d.R e wr (w.iter s p).heap.size ok v xs) : d.R e (wr.putObj w.heap.size (.stringIter s q)) (w.iter s q).heap.size ok v xs := by
  have hs := iter_size w s p
  have hq := iter_size w s q
  rw [hq]; rw [hs] at h
  exact Kd.R_mono (Kd.R_step (Kd.R_bound h) (fun k hk _ => World.putObj_heap_other (by have := hk.2.1; omega))) (fun k hk => hk.1)
end Go.Proofs.Ytcgglamgemgeiaa.Q
/- FCorporaref01Units -/
namespace Go.Proofs.Ytcgglamgemgeiaa.Q
open Go.RowKit Go.Proofs.YtcgglamgemgeiaaW.PrintWords Go.Proofs.YtcgglamgemgeiaaW.PrintLast Go.Proofs.YtcgglamgemgeiaaW.PrintMore
attribute [local go_sem] max2_int min2_int max_two min_two max_three min_three max_four min_four   -- for this text's walks alone
set_option linter.unusedVariables false
set_option linter.unusedSimpArgs false

/-! ### corporaref01_Units: function 41 -/
mutual
def corporaref01_Units.l0 : Nat → ByteArray → List (S56) → Int → Int → Option ((List (S56)))
  | 0, _, _, _, _ => none
  | k + 1, x0, x3, x8, x82 => if x8 < x82 then (if (x3.length : Int) > 0 then (if 0 ≤ (wrap64 ((x3.length : Int) - 1)) then (if (wrap64 ((x3.length : Int) - 1)) < (x3.length : Int) then ((some (x3.set ((wrap64 ((x3.length : Int) - 1)) : Int).toNat (⟨(rd_T56 x3 (wrap64 ((x3.length : Int) - 1))).f0, (rd_T56 x3 (wrap64 ((x3.length : Int) - 1))).f1, wrap64 (x8 - ((rd_T56 x3 (wrap64 ((x3.length : Int) - 1))).f1)), (rd_T56 x3 (wrap64 ((x3.length : Int) - 1))).f3⟩ : S56) : List (S56))).bind fun y116 => (if y116.length < 4398046511104 then (corporaref01_Units.l0 k x0 (y116 ++ [(⟨rn_ x0 x8, x8, 0, false⟩ : S56)]) (x8 + wd_ x0 x8) x82) else (none))) else (none)) else (none)) else (if x3.length < 4398046511104 then (corporaref01_Units.l0 k x0 (x3 ++ [(⟨rn_ x0 x8, x8, 0, false⟩ : S56)]) (x8 + wd_ x0 x8) x82) else (none))) else (if (x3.length : Int) > 0 then (if 0 ≤ (wrap64 ((x3.length : Int) - 1)) then (if (wrap64 ((x3.length : Int) - 1)) < (x3.length : Int) then (corporaref01_Units.j1 k (x3.set ((wrap64 ((x3.length : Int) - 1)) : Int).toNat (⟨(rd_T56 x3 (wrap64 ((x3.length : Int) - 1))).f0, (rd_T56 x3 (wrap64 ((x3.length : Int) - 1))).f1, wrap64 ((x0.size : Int) - ((rd_T56 x3 (wrap64 ((x3.length : Int) - 1))).f1)), (rd_T56 x3 (wrap64 ((x3.length : Int) - 1))).f3⟩ : S56))) else (none)) else (none)) else (corporaref01_Units.j1 k x3))
def corporaref01_Units.j1 : Nat → List (S56) → Option ((List (S56)))
  | 0, _ => none
  | k + 1, x3 => corporaref01_Units.l1 k x3 (x3.length : Int) 0
def corporaref01_Units.l1 : Nat → List (S56) → Int → Int → Option ((List (S56)))
  | 0, _, _, _ => none
  | k + 1, x3, x57, x58 => if x58 < x57 then (if 0 ≤ x58 then (if x58 < (x3.length : Int) then (if ((rd_T56 x3 x58).f0) = 65533 then (corporaref01_Units.l1 k (x3.set (x58 : Int).toNat (⟨(rd_T56 x3 x58).f0, (rd_T56 x3 x58).f1, (rd_T56 x3 x58).f2, (((rd_T56 x3 x58).f2) == 3)⟩ : S56)) x57 (wrap64 (x58 + 1))) else (corporaref01_Units.l1 k (x3.set (x58 : Int).toNat (⟨(rd_T56 x3 x58).f0, (rd_T56 x3 x58).f1, (rd_T56 x3 x58).f2, true⟩ : S56)) x57 (wrap64 (x58 + 1)))) else (none)) else (none)) else (some x3)
end
def corporaref01_Units.f (k : Nat) (a0 : ByteArray) : Option ((List (S56))) := corporaref01_Units.l0 k a0 ([] : List (S56)) 0 (a0.size : Int)
theorem corporaref01_Units.mono_l : ∀ k, (∀ y0 y1 y2 y3, LeO (corporaref01_Units.l0 k y0 y1 y2 y3) (corporaref01_Units.l0 (k + 1) y0 y1 y2 y3)) ∧ (∀ y0, LeO (corporaref01_Units.j1 k y0) (corporaref01_Units.j1 (k + 1) y0)) ∧ (∀ y0 y1 y2, LeO (corporaref01_Units.l1 k y0 y1 y2) (corporaref01_Units.l1 (k + 1) y0 y1 y2))
  | 0 => ⟨fun _ _ _ _ r h => by simp [corporaref01_Units.l0] at h, fun _ r h => by simp [corporaref01_Units.j1] at h, fun _ _ _ r h => by simp [corporaref01_Units.l1] at h⟩
  | k + 1 => by
    obtain ⟨ih0, ih1, ih2⟩ := corporaref01_Units.mono_l k
    refine ⟨?_, ?_, ?_⟩
    · intro y0 y1 y2 y3
      unfold corporaref01_Units.l0
      repeat' first
      | (with_reducible exact ih0 _ _ _ _)
      | (with_reducible exact ih1 _)
      | (with_reducible exact ih2 _ _ _)
      | (with_reducible exact LeO.refl _)
      | (with_reducible exact LeO.none _)
      | (with_reducible refine LeO.ite ?_ ?_)
      | (with_reducible refine LeO.bind ?_ (fun _ => ?_))
      | exact ih0 _ _ _ _
      | exact ih1 _
      | exact ih2 _ _ _
      | exact LeO.none _
      | refine LeO.ite ?_ ?_
      | refine LeO.bind ?_ (fun _ => ?_)
    · intro y0
      unfold corporaref01_Units.j1
      repeat' first
      | (with_reducible exact ih0 _ _ _ _)
      | (with_reducible exact ih1 _)
      | (with_reducible exact ih2 _ _ _)
      | (with_reducible exact LeO.refl _)
      | (with_reducible exact LeO.none _)
      | (with_reducible refine LeO.ite ?_ ?_)
      | (with_reducible refine LeO.bind ?_ (fun _ => ?_))
      | exact ih0 _ _ _ _
      | exact ih1 _
      | exact ih2 _ _ _
      | exact LeO.none _
      | refine LeO.ite ?_ ?_
      | refine LeO.bind ?_ (fun _ => ?_)
    · intro y0 y1 y2
      unfold corporaref01_Units.l1
      repeat' first
      | (with_reducible exact ih0 _ _ _ _)
      | (with_reducible exact ih1 _)
      | (with_reducible exact ih2 _ _ _)
      | (with_reducible exact LeO.refl _)
      | (with_reducible exact LeO.none _)
      | (with_reducible refine LeO.ite ?_ ?_)
      | (with_reducible refine LeO.bind ?_ (fun _ => ?_))
      | exact ih0 _ _ _ _
      | exact ih1 _
      | exact ih2 _ _ _
      | exact LeO.none _
      | refine LeO.ite ?_ ?_
      | refine LeO.bind ?_ (fun _ => ?_)
theorem corporaref01_Units.mono : ∀ a0 k, LeO (corporaref01_Units.f k a0) (corporaref01_Units.f (k + 1) a0) := by
  intro a0 k
  obtain ⟨ih0, ih1, ih2⟩ := corporaref01_Units.mono_l k
  unfold corporaref01_Units.f
  repeat' first
      | (with_reducible exact ih0 _ _ _ _)
      | (with_reducible exact ih1 _)
      | (with_reducible exact ih2 _ _ _)
      | (with_reducible exact LeO.refl _)
      | (with_reducible exact LeO.none _)
      | (with_reducible refine LeO.ite ?_ ?_)
      | (with_reducible refine LeO.bind ?_ (fun _ => ?_))
      | exact ih0 _ _ _ _
      | exact ih1 _
      | exact ih2 _ _ _
      | exact LeO.none _
      | refine LeO.ite ?_ ?_
      | refine LeO.bind ?_ (fun _ => ?_)
set_option maxHeartbeats 8000000 in
set_option maxRecDepth 100000 in
theorem corporaref01_Units.calls (k : Nat) (a0 : ByteArray) (r : List (S56)) (w : World) (h : corporaref01_Units.f k a0 = some r) :
    Calls Try.prog 41 #[.string a0] w fun e w' => ∃ v0_ : Value, e = .returned (v0_) ∧ Kd.R k56 56 w' w.heap.size (fun _ => True) v0_ r ∧ Below w.heap.size w w' := by
  have hu56 := Try.underlying56
  have HB := Aside0.mk (Below.refl w.heap.size w)
  have H : (corporaref01_Units.l0 k a0 ([] : List (S56)) 0 (a0.size : Int)) = some r := h
  clear h
  have H' := Aside0.mk H
  clear H
  go_enter Try.func41, Try.ntmps41
  go_wp2
  go_loopg [3] k (fun kq v3 w' => ∃ (x3_1 : List (S56)) (x8_1 : Int), 0 ≤ x8_1 ∧ Aside0 (corporaref01_Units.l0 kq a0 x3_1 x8_1 (a0.size : Int) = some r) ∧ Aside0 (kq ≤ k) ∧ Aside0 (Kd.R k56 56 w' (w.iter a0 x8_1.toNat).heap.size (fun _ => True) v3 x3_1) ∧ Aside0 (Below (w.iter a0 x8_1.toNat).heap.size (w.iter a0 x8_1.toNat) w'))
  case atStart => exact ⟨([] : List (S56)), 0, Int.le_refl _, H', ⟨Nat.le_refl _⟩, ⟨Kd.R_nil _ _ _ _ _⟩, ⟨Below.refl _ _⟩⟩
  case round =>
    clear H'
    obtain ⟨x3_1, x8_1, h8_, HA, HK1, HO_3, HB⟩ := hrel
    cases gk with
    | zero => exact absurd HA.out (by simp [corporaref01_Units.l0])
    | succ k1 =>
      have H := HA.out
      clear HA
      simp only [corporaref01_Units.l0] at H
      by_cases c2 : x8_1 < (a0.size : Int)
      · rw [if_pos c2] at H
        have c2b0 : decide (x8_1 < (a0.size : Int)) = true := decide_eq_true c2
        clear c2
        have hsz_ := iter_size w a0 x8_1.toNat
        have hit_ := (HB.out.block w.heap.size (by omega)).trans (World.iter_heap w a0 x8_1.toNat)
        have hp_ : x8_1.toNat < a0.size := by have h_ : x8_1 < (a0.size : Int) := of_decide_eq_true c2b0; omega
        obtain ⟨wq, hwq_⟩ : ∃ wq, wr.putObj w.heap.size (.stringIter a0 (x8_1 + wd_ a0 x8_1).toNat) = wq := ⟨_, rfl⟩
        have hnx : ∀ ty, (Instr.next (.pointer (some ⟨w.heap.size, 0, none⟩)) true ty).run Try.prog wr = .ok (.tuple #[.bool true, .int .i64 x8_1, .int .i32 (rn_ a0 x8_1)]) wq := fun ty => by
          rw [← hwq_]; exact next_rn wr w.heap.size a0 x8_1 ty h8_ hit_ hp_
        have n0_ := turn_below w wr a0 x8_1.toNat (x8_1 + wd_ a0 x8_1).toNat HB.out
        have n1_ := turn_R w wr a0 x8_1.toNat (x8_1 + wd_ a0 x8_1).toNat HO_3.out
        rw [hwq_] at n0_ n1_
        obtain ⟨wJ, hwJ_⟩ : ∃ wJ, w.iter a0 (x8_1 + wd_ a0 x8_1).toNat = wJ := ⟨_, rfl⟩
        rw [hwJ_] at n0_ n1_
        replace hwJ_ := Aside0.mk hwJ_
        clear HB HO_3 hwq_ hit_ hsz_ hp_
        have HB := Aside0.mk n0_
        have HO_3 := Aside0.mk n1_
        clear n0_ n1_
        by_cases c3 : (x3_1.length : Int) > 0
        · rw [if_pos c3] at H
          have c3b0 : decide (0 < (x3_1.length : Int)) = true := decide_eq_true c3
          have c3b1 : decide (0 < x3_1.length) = true := decide_eq_true (by omega)
          clear c3
          obtain ⟨ji4, hji4⟩ : ∃ j_ : Int, (wrap64 ((x3_1.length : Int) - 1)) = j_ := ⟨_, rfl⟩
          replace H : (if 0 ≤ (ji4) then (if (ji4) < (x3_1.length : Int) then ((some (x3_1.set ((ji4) : Int).toNat (⟨(rd_T56 x3_1 (ji4)).f0, (rd_T56 x3_1 (ji4)).f1, wrap64 (x8_1 - ((rd_T56 x3_1 (ji4)).f1)), (rd_T56 x3_1 (ji4)).f3⟩ : S56) : List (S56))).bind fun y116 => (if y116.length < 4398046511104 then (corporaref01_Units.l0 k1 a0 (y116 ++ [(⟨rn_ a0 x8_1, x8_1, 0, false⟩ : S56)]) (x8_1 + wd_ a0 x8_1) (a0.size : Int)) else (none))) else (none)) else (none)) = some r := by first | (rw [hji4] at H; exact H) | (simp only [hji4] at H ⊢; exact H)
          have hji4w : (IntKind.i64.wrap ((x3_1.length : Int) - 1)) = ji4 := (i64_w _).trans hji4
          by_cases c5 : 0 ≤ (ji4)
          · rw [if_pos c5] at H
            have c5b0 : decide (0 ≤ (ji4)) = true := decide_eq_true c5
            clear c5
            by_cases c6 : (ji4) < (x3_1.length : Int)
            · rw [if_pos c6] at H
              have c6b0 : decide ((ji4) < (x3_1.length : Int)) = true := decide_eq_true c6
              clear c6
              obtain ⟨y116, hy116⟩ : ∃ y_ : List (S56), y_ = (x3_1.set ((ji4) : Int).toNat (⟨(rd_T56 x3_1 (ji4)).f0, (rd_T56 x3_1 (ji4)).f1, wrap64 (x8_1 - ((rd_T56 x3_1 (ji4)).f1)), (rd_T56 x3_1 (ji4)).f3⟩ : S56)) := ⟨_, rfl⟩
              replace H : (if y116.length < 4398046511104 then (corporaref01_Units.l0 k1 a0 (y116 ++ [(⟨rn_ a0 x8_1, x8_1, 0, false⟩ : S56)]) (x8_1 + wd_ a0 x8_1) (a0.size : Int)) else (none)) = some r := by first | (rw [hy116]; with_reducible exact H) | (have H2_ := (Option.bind_some _ _).symm.trans H; rw [hy116]; with_reducible exact H2_) | (have H2_ := (Option.bind_some _ _).symm.trans H; with_reducible exact H2_) | with_reducible exact H | (rw [hy116]; exact H) | exact H
              have Ny116 := Aside0.mk hy116
              clear hy116
              by_cases c8 : y116.length < 4398046511104
              · rw [if_pos c8] at H
                have LMc8 := Aside0.mk c8
                clear c8
                obtain ⟨y117, hy117⟩ : ∃ y_ : List (S56), y_ = (y116 ++ [(⟨rn_ a0 x8_1, x8_1, 0, false⟩ : S56)]) := ⟨_, rfl⟩
                replace H : (corporaref01_Units.l0 k1 a0 y117 (x8_1 + wd_ a0 x8_1) (a0.size : Int)) = some r := by first | (rw [hy117]; with_reducible exact H) | (have H2_ := (Option.bind_some _ _).symm.trans H; rw [hy117]; with_reducible exact H2_) | (have H2_ := (Option.bind_some _ _).symm.trans H; with_reducible exact H2_) | with_reducible exact H | (rw [hy117]; exact H) | exact H
                have Ny117 := Aside0.mk hy117
                clear hy117
                have H' := Aside0.mk H
                clear H
                obtain ⟨Ao9, co9, eo9⟩ := Kd.R_slice HO_3.out
                subst eo9
                have p115 : 0 ≤ ((ji4) : Int) := of_decide_eq_true (by first | (with_reducible assumption) | assumption)
                have q115 : (ji4) < (x3_1.length : Int) := of_decide_eq_true (by first | (with_reducible assumption) | assumption)
                obtain ⟨ad115, e115, hx115_0, hx115_1, hx115_2, hx115_3⟩ := at_T56 (Kd.R_reads' HO_3.out).2.2 (ji4) p115 q115
                cases e115
                replace p115 := eq_true p115
                replace q115 := eq_true q115
                have p7 : 0 ≤ ((ji4) : Int) := of_decide_eq_true (by first | (with_reducible assumption) | assumption)
                have q7 : ((ji4) : Int) < ((x3_1.length : Int) : Int) := of_decide_eq_true (by first | (with_reducible assumption) | assumption)
                obtain ⟨go7, co7, eo7, gb7, gl7, cl7, HG7⟩ := Kd.R_form HO_3.out (by omega)
                (first | cases eo7 | (injection eo7 with ea_ en_ ec_; (first | subst ea_ | (injection ea_ with ea_; subst ea_)); subst ec_; clear en_))
                have GB7 := Aside0.mk gb7
                have GG7 := Aside0.mk HG7
                clear gb7 gl7 HG7
                (first | simp only [add_plain] at hx115_0 | skip)
                (first | simp only [add_plain] at hx115_1 | skip)
                (first | simp only [add_plain] at hx115_2 | skip)
                (first | simp only [add_plain] at hx115_3 | skip)
                obtain ⟨ce7, hcl7, hM7, hcc7, hfr7⟩ := Kd.R_elem HO_3.out z56 ((ji4) : Int) p7 q7
                obtain rfl := k56_openM hM7
                have hx7_0 : wq.cell? ⟨go7, ((ji4) : Int).toNat * 4, none⟩ = some (.int .i32 ((rd_T56 x3_1 (ji4)).f0)) := hcc7 0 _ rfl
                have hx7_1 : wq.cell? ⟨go7, ((ji4) : Int).toNat * 4 + 1, none⟩ = some (.int .i64 ((rd_T56 x3_1 (ji4)).f1)) := hcc7 1 _ rfl
                have hx7_2 : wq.cell? ⟨go7, ((ji4) : Int).toNat * 4 + 2, none⟩ = some (.int .i64 ((rd_T56 x3_1 (ji4)).f2)) := hcc7 2 _ rfl
                have hx7_3 : wq.cell? ⟨go7, ((ji4) : Int).toNat * 4 + 3, none⟩ = some (.bool ((rd_T56 x3_1 (ji4)).f3)) := hcc7 3 _ rfl
                have hf7_0 : wq.frozen? ⟨go7, ((ji4) : Int).toNat * 4, none⟩ = false := hfr7 0
                have hf7_1 : wq.frozen? ⟨go7, ((ji4) : Int).toNat * 4 + 1, none⟩ = false := hfr7 1
                have hf7_2 : wq.frozen? ⟨go7, ((ji4) : Int).toNat * 4 + 2, none⟩ = false := hfr7 2
                have hf7_3 : wq.frozen? ⟨go7, ((ji4) : Int).toNat * 4 + 3, none⟩ = false := hfr7 3
                clear hcl7 hcc7 hfr7 hM7
                replace p7 := eq_true p7
                replace q7 := eq_true q7
                have HX10 := Aside0.mk (show Kd.R k56 56 wq wJ.heap.size (fun _ => True) (.slice (some ⟨go7, 0, none⟩) x3_1.length co9) x3_1 from (by (with_reducible repeat (first | apply Kd.R_alloc | apply Kd.R_drewN | apply Kd.R_drew)); exact HO_3.out))
                obtain ⟨ce10, hcl10, hM10, hcc10, hfr10⟩ := Kd.R_elem HX10.out z56 ((ji4) : Int) (of_decide_eq_true (by first | (with_reducible assumption) | assumption)) (by have h_ : ((ji4) : Int) < ((x3_1.length : Int) : Int) := of_decide_eq_true (by first | (with_reducible assumption) | assumption); first | exact h_ | (have e_ := (Kd.R_reads' HO_3.out).1; omega) | simpa using h_)
                obtain rfl := k56_openM hM10
                have HP10 := Kd.R_seg HX10.out ((ji4) : Int) (of_decide_eq_true (by first | (with_reducible assumption) | assumption)) (by have h_ : ((ji4) : Int) < ((x3_1.length : Int) : Int) := of_decide_eq_true (by first | (with_reducible assumption) | assumption); first | exact h_ | (have e_ := (Kd.R_reads' HO_3.out).1; omega) | simpa using h_) (seg := [.int .i64 (wrap64 (x8_1 - ((rd_T56 x3_1 (ji4)).f1)))]) (j := 2) hcl10 hcc10 (show 3 ≤ 4 from by decide) (x' := (⟨(rd_T56 x3_1 (ji4)).f0, (rd_T56 x3_1 (ji4)).f1, wrap64 (x8_1 - ((rd_T56 x3_1 (ji4)).f1)), (rd_T56 x3_1 (ji4)).f3⟩ : S56)) (k56_mkM _ _ _ (⟨(rd_T56 x3_1 (ji4)).f0, (rd_T56 x3_1 (ji4)).f1, wrap64 (x8_1 - ((rd_T56 x3_1 (ji4)).f1)), (rd_T56 x3_1 (ji4)).f3⟩ : S56) ) (fun _ hk => hk)
                have hx10_2 := hcc10 2 _ rfl
                (try simp only [show (k56).sz = 4 from rfl, Nat.mul_one, Nat.add_zero] at hx10_2)
                have hf10_2 := hfr10 2
                (try simp only [show (k56).sz = 4 from rfl, Nat.mul_one, Nat.add_zero] at hf10_2)
                clear hcl10 hcc10 hfr10 hM10
                go_wp2_with (first | ((with_reducible refine gate_store (t := 3) (p := 30) rfl ?_); refine store_event (t := 3) (p := 30) (v := ?vo_w11) (w1 := (wq.setCell ⟨go7, ((ji4) : Int).toNat * 4 + 2, none⟩ (.int .i64 (wrap64 (x8_1 - ((rd_T56 x3_1 (ji4)).f1)))))) ?hg ?ho ?hn ?hr ?_; (case ho => rfl); (case hg => rfl); (case hn => rfl); (case hr => first | (go_simp; done) | (go_simp; rfl)); intro w11 hw; have hg : wq.grownBy w11 (some go7) := (by rw [hw]; exact HP10.2); have hp_ : Kd.R k56 56 w11 wJ.heap.size (fun _ => True) (.slice (some ⟨go7, 0, none⟩) x3_1.length co9) y116 := (by rw [hw, Ny116.out]; exact HP10.1); clear HP10; have n0_ := Aside0.mk (hp_); have n1_ := Aside0.mk ((by rw [hw]; exact below_set (HB.out) GB7.out : Below wJ.heap.size wJ w11)); clear HO_3; clear HB; have HO_3 := n0_; have HB := n1_; clear n0_ n1_; clear hg hw hp_) | ((with_reducible refine gate_builtin (b := .append) (xs := #[.tmp 31, .tmp 35]) rfl ?_); at_builtin; refine Kd.R_append k56 (w0 := wJ) wJ.heap.size rfl (.tmp 31) (.tmp 35) 53 56 (.agg #[(.int .i32 0), (.int .i64 0), (.int .i64 0), (.bool false)]) 32 rfl Try.underlying53 info56 rfl (by decide) (by omega) (.slice (some ⟨go7, 0, none⟩) x3_1.length co9) y116 (⟨rn_ a0 x8_1, x8_1, 0, false⟩ : S56) [.int .i32 (rn_ a0 x8_1), .int .i64 x8_1, .int .i64 0, .bool false] (fun _ => True) (fun _ => False) rfl rfl ?aP (fun _ hk => hk.elim) ?aF ?aO ?aB ?aS ?aL ?_; (case aP => exact k56_mkM _ _ _ (⟨rn_ a0 x8_1, x8_1, 0, false⟩ : S56)); (case aB => exact (by repeat (first | (with_reducible first | exact HB.out | apply below_alloc | apply pw_below_drewN | apply below_drew1) | exact HB.out))); (case aF => exact (fun _ _ => trivial)); (case aO => exact (by (with_reducible repeat (first | apply Kd.R_alloc | apply Kd.R_drewN | apply Kd.R_drew)); exact HO_3.out)); (case aS => exact (below_size (by repeat (first | (with_reducible first | exact HB.out | apply below_alloc | apply pw_below_drewN | apply below_drew1) | exact HB.out)))); (case aL => have := LMc8.out; omega); intro v118 w12 ho hb hg hat; rw [← Ny117.out] at ho; have n0_ := Aside0.mk (hb); have n1_ := Aside0.mk (ho); clear HB; clear HO_3; have HB := n0_; have HO119 := n1_; clear n0_ n1_; clear ho hb hg hat))
                go_roundg k1
                case measure => have := HK1.out; omega
                case rel => exact ⟨(y117), (x8_1 + wd_ a0 x8_1), (by have h_ := wd_nn a0 x8_1; omega), H', ⟨by have := HK1.out; omega⟩, ⟨by rw [hwJ_.out]; (with_reducible repeat (first | apply Kd.R_alloc | apply Kd.R_drewN | apply Kd.R_drew)); exact HO119.out⟩, ⟨by rw [hwJ_.out]; repeat (first | (with_reducible first | exact HB.out | apply below_alloc | apply pw_below_drewN | apply below_drew1) | exact HB.out)⟩⟩
              · rw [if_neg c8] at H
                exact absurd H (by simp)
            · rw [if_neg c6] at H
              exact absurd H (by simp)
          · rw [if_neg c5] at H
            exact absurd H (by simp)
        · rw [if_neg c3] at H
          have c3b0 : decide (0 < (x3_1.length : Int)) = false := decide_eq_false c3
          have c3b1 : decide (0 < x3_1.length) = false := decide_eq_false (by omega)
          clear c3
          by_cases c13 : x3_1.length < 4398046511104
          · rw [if_pos c13] at H
            have LMc13 := Aside0.mk c13
            clear c13
            obtain ⟨y120, hy120⟩ : ∃ y_ : List (S56), y_ = (x3_1 ++ [(⟨rn_ a0 x8_1, x8_1, 0, false⟩ : S56)]) := ⟨_, rfl⟩
            replace H : (corporaref01_Units.l0 k1 a0 y120 (x8_1 + wd_ a0 x8_1) (a0.size : Int)) = some r := by first | (rw [hy120]; with_reducible exact H) | (have H2_ := (Option.bind_some _ _).symm.trans H; rw [hy120]; with_reducible exact H2_) | (have H2_ := (Option.bind_some _ _).symm.trans H; with_reducible exact H2_) | with_reducible exact H | (rw [hy120]; exact H) | exact H
            have Ny120 := Aside0.mk hy120
            clear hy120
            have H' := Aside0.mk H
            clear H
            obtain ⟨Ao14, co14, eo14⟩ := Kd.R_slice HO_3.out
            subst eo14
            go_wp2_with (first | ((with_reducible refine gate_builtin (b := .append) (xs := #[.tmp 31, .tmp 35]) rfl ?_); at_builtin; refine Kd.R_append k56 (w0 := wJ) wJ.heap.size rfl (.tmp 31) (.tmp 35) 53 56 (.agg #[(.int .i32 0), (.int .i64 0), (.int .i64 0), (.bool false)]) 32 rfl Try.underlying53 info56 rfl (by decide) (by omega) (.slice Ao14 x3_1.length co14) x3_1 (⟨rn_ a0 x8_1, x8_1, 0, false⟩ : S56) [.int .i32 (rn_ a0 x8_1), .int .i64 x8_1, .int .i64 0, .bool false] (fun _ => True) (fun _ => False) rfl rfl ?aP (fun _ hk => hk.elim) ?aF ?aO ?aB ?aS ?aL ?_; (case aP => exact k56_mkM _ _ _ (⟨rn_ a0 x8_1, x8_1, 0, false⟩ : S56)); (case aB => exact (by repeat (first | (with_reducible first | exact HB.out | apply below_alloc | apply pw_below_drewN | apply below_drew1) | exact HB.out))); (case aF => exact (fun _ _ => trivial)); (case aO => exact (by (with_reducible repeat (first | apply Kd.R_alloc | apply Kd.R_drewN | apply Kd.R_drew)); exact HO_3.out)); (case aS => exact (below_size (by repeat (first | (with_reducible first | exact HB.out | apply below_alloc | apply pw_below_drewN | apply below_drew1) | exact HB.out)))); (case aL => have := LMc13.out; omega); intro v121 w15 ho hb hg hat; rw [← Ny120.out] at ho; have n0_ := Aside0.mk (hb); have n1_ := Aside0.mk (ho); clear HB; clear HO_3; have HB := n0_; have HO122 := n1_; clear n0_ n1_; clear ho hb hg hat))
            go_roundg k1
            case measure => have := HK1.out; omega
            case rel => exact ⟨(y120), (x8_1 + wd_ a0 x8_1), (by have h_ := wd_nn a0 x8_1; omega), H', ⟨by have := HK1.out; omega⟩, ⟨by rw [hwJ_.out]; (with_reducible repeat (first | apply Kd.R_alloc | apply Kd.R_drewN | apply Kd.R_drew)); exact HO122.out⟩, ⟨by rw [hwJ_.out]; repeat (first | (with_reducible first | exact HB.out | apply below_alloc | apply pw_below_drewN | apply below_drew1) | exact HB.out)⟩⟩
          · rw [if_neg c13] at H
            exact absurd H (by simp)
      · rw [if_neg c2] at H
        have c2b0 : decide (x8_1 < (a0.size : Int)) = false := decide_eq_false c2
        clear c2
        have hsz_ := iter_size w a0 x8_1.toNat
        have hit_ := (HB.out.block w.heap.size (by omega)).trans (World.iter_heap w a0 x8_1.toNat)
        have hnx : ∀ ty, (Instr.next (.pointer (some ⟨w.heap.size, 0, none⟩)) true ty).run Try.prog wr = .ok (.tuple #[.bool false]) wr := fun ty => run_next_over wr _ a0 _ ty hit_ (by have h_ : ¬ x8_1 < (a0.size : Int) := of_decide_eq_false c2b0; omega)
        have n0_ : Below w.heap.size w wr := ((Below.refl w.heap.size w).alloc (Nat.le_refl _) _).trans (HB.out.mono (by omega))
        have n1_ := Kd.R_lower HO_3.out (base' := w.heap.size) (by omega)
        clear HB HO_3 hit_ hsz_
        have HB := Aside0.mk n0_
        have HO_3 := Aside0.mk n1_
        clear n0_ n1_
        have HC16 := Aside0.mk H
        clear H
        obtain ⟨Ao17, co17, eo17⟩ := Kd.R_slice HO_3.out
        subst eo17
        go_upto_if 39 with (fail)
        go_cut [] (fun wc => ∃ (kq : Nat) (x3_15 : List (S56)), Aside0 (corporaref01_Units.j1 kq x3_15 = some r) ∧ Aside0 (kq ≤ k1) ∧ Aside0 (Kd.R k56 56 wc w.heap.size (fun _ => True) (.slice Ao17 x3_1.length co17) x3_15) ∧ Aside0 (Below w.heap.size w wc))
        case first =>
          have H := HC16.out
          clear HC16
          by_cases c18 : (x3_1.length : Int) > 0
          · rw [if_pos c18] at H
            have c18b0 : decide (0 < (x3_1.length : Int)) = true := decide_eq_true c18
            have c18b1 : decide (0 < x3_1.length) = true := decide_eq_true (by omega)
            clear c18
            (first | rw [c18b0] | rw [c18b1] | (simp only [i64_w, i32_w]; rw [c18b0]) | skip)
            obtain ⟨ji19, hji19⟩ : ∃ j_ : Int, (wrap64 ((x3_1.length : Int) - 1)) = j_ := ⟨_, rfl⟩
            replace H : (if 0 ≤ (ji19) then (if (ji19) < (x3_1.length : Int) then (corporaref01_Units.j1 k1 (x3_1.set ((ji19) : Int).toNat (⟨(rd_T56 x3_1 (ji19)).f0, (rd_T56 x3_1 (ji19)).f1, wrap64 ((a0.size : Int) - ((rd_T56 x3_1 (ji19)).f1)), (rd_T56 x3_1 (ji19)).f3⟩ : S56))) else (none)) else (none)) = some r := by first | (rw [hji19] at H; exact H) | (simp only [hji19] at H ⊢; exact H)
            have hji19w : (IntKind.i64.wrap ((x3_1.length : Int) - 1)) = ji19 := (i64_w _).trans hji19
            by_cases c20 : 0 ≤ (ji19)
            · rw [if_pos c20] at H
              have c20b0 : decide (0 ≤ (ji19)) = true := decide_eq_true c20
              clear c20
              by_cases c21 : (ji19) < (x3_1.length : Int)
              · rw [if_pos c21] at H
                have c21b0 : decide ((ji19) < (x3_1.length : Int)) = true := decide_eq_true c21
                clear c21
                obtain ⟨y124, hy124⟩ : ∃ y_ : List (S56), y_ = (x3_1.set ((ji19) : Int).toNat (⟨(rd_T56 x3_1 (ji19)).f0, (rd_T56 x3_1 (ji19)).f1, wrap64 ((a0.size : Int) - ((rd_T56 x3_1 (ji19)).f1)), (rd_T56 x3_1 (ji19)).f3⟩ : S56)) := ⟨_, rfl⟩
                replace H : (corporaref01_Units.j1 k1 y124) = some r := by first | (rw [hy124]; with_reducible exact H) | (have H2_ := (Option.bind_some _ _).symm.trans H; rw [hy124]; with_reducible exact H2_) | (have H2_ := (Option.bind_some _ _).symm.trans H; with_reducible exact H2_) | with_reducible exact H | (rw [hy124]; exact H) | exact H
                have Ny124 := Aside0.mk hy124
                clear hy124
                have H' := Aside0.mk H
                clear H
                have p123 : 0 ≤ ((ji19) : Int) := of_decide_eq_true (by first | (with_reducible assumption) | assumption)
                have q123 : (ji19) < (x3_1.length : Int) := of_decide_eq_true (by first | (with_reducible assumption) | assumption)
                obtain ⟨ad123, e123, hx123_0, hx123_1, hx123_2, hx123_3⟩ := at_T56 (Kd.R_reads' HO_3.out).2.2 (ji19) p123 q123
                cases e123
                replace p123 := eq_true p123
                replace q123 := eq_true q123
                have p22 : 0 ≤ ((ji19) : Int) := of_decide_eq_true (by first | (with_reducible assumption) | assumption)
                have q22 : ((ji19) : Int) < ((x3_1.length : Int) : Int) := of_decide_eq_true (by first | (with_reducible assumption) | assumption)
                obtain ⟨go22, co22, eo22, gb22, gl22, cl22, HG22⟩ := Kd.R_form HO_3.out (by omega)
                (first | cases eo22 | (injection eo22 with ea_ en_ ec_; (first | subst ea_ | (injection ea_ with ea_; subst ea_)); subst ec_; clear en_))
                have GB22 := Aside0.mk gb22
                have GG22 := Aside0.mk HG22
                clear gb22 gl22 HG22
                (first | simp only [add_plain] at hx123_0 | skip)
                (first | simp only [add_plain] at hx123_1 | skip)
                (first | simp only [add_plain] at hx123_2 | skip)
                (first | simp only [add_plain] at hx123_3 | skip)
                obtain ⟨ce22, hcl22, hM22, hcc22, hfr22⟩ := Kd.R_elem HO_3.out z56 ((ji19) : Int) p22 q22
                obtain rfl := k56_openM hM22
                have hx22_0 : wr.cell? ⟨go22, ((ji19) : Int).toNat * 4, none⟩ = some (.int .i32 ((rd_T56 x3_1 (ji19)).f0)) := hcc22 0 _ rfl
                have hx22_1 : wr.cell? ⟨go22, ((ji19) : Int).toNat * 4 + 1, none⟩ = some (.int .i64 ((rd_T56 x3_1 (ji19)).f1)) := hcc22 1 _ rfl
                have hx22_2 : wr.cell? ⟨go22, ((ji19) : Int).toNat * 4 + 2, none⟩ = some (.int .i64 ((rd_T56 x3_1 (ji19)).f2)) := hcc22 2 _ rfl
                have hx22_3 : wr.cell? ⟨go22, ((ji19) : Int).toNat * 4 + 3, none⟩ = some (.bool ((rd_T56 x3_1 (ji19)).f3)) := hcc22 3 _ rfl
                have hf22_0 : wr.frozen? ⟨go22, ((ji19) : Int).toNat * 4, none⟩ = false := hfr22 0
                have hf22_1 : wr.frozen? ⟨go22, ((ji19) : Int).toNat * 4 + 1, none⟩ = false := hfr22 1
                have hf22_2 : wr.frozen? ⟨go22, ((ji19) : Int).toNat * 4 + 2, none⟩ = false := hfr22 2
                have hf22_3 : wr.frozen? ⟨go22, ((ji19) : Int).toNat * 4 + 3, none⟩ = false := hfr22 3
                clear hcl22 hcc22 hfr22 hM22
                replace p22 := eq_true p22
                replace q22 := eq_true q22
                have HX23 := Aside0.mk (show Kd.R k56 56 wr w.heap.size (fun _ => True) (.slice (some ⟨go22, 0, none⟩) x3_1.length co17) x3_1 from (by (with_reducible repeat (first | apply Kd.R_alloc | apply Kd.R_drewN | apply Kd.R_drew)); exact HO_3.out))
                obtain ⟨ce23, hcl23, hM23, hcc23, hfr23⟩ := Kd.R_elem HX23.out z56 ((ji19) : Int) (of_decide_eq_true (by first | (with_reducible assumption) | assumption)) (by have h_ : ((ji19) : Int) < ((x3_1.length : Int) : Int) := of_decide_eq_true (by first | (with_reducible assumption) | assumption); first | exact h_ | (have e_ := (Kd.R_reads' HO_3.out).1; omega) | simpa using h_)
                obtain rfl := k56_openM hM23
                have HP23 := Kd.R_seg HX23.out ((ji19) : Int) (of_decide_eq_true (by first | (with_reducible assumption) | assumption)) (by have h_ : ((ji19) : Int) < ((x3_1.length : Int) : Int) := of_decide_eq_true (by first | (with_reducible assumption) | assumption); first | exact h_ | (have e_ := (Kd.R_reads' HO_3.out).1; omega) | simpa using h_) (seg := [.int .i64 (wrap64 ((a0.size : Int) - ((rd_T56 x3_1 (ji19)).f1)))]) (j := 2) hcl23 hcc23 (show 3 ≤ 4 from by decide) (x' := (⟨(rd_T56 x3_1 (ji19)).f0, (rd_T56 x3_1 (ji19)).f1, wrap64 ((a0.size : Int) - ((rd_T56 x3_1 (ji19)).f1)), (rd_T56 x3_1 (ji19)).f3⟩ : S56)) (k56_mkM _ _ _ (⟨(rd_T56 x3_1 (ji19)).f0, (rd_T56 x3_1 (ji19)).f1, wrap64 ((a0.size : Int) - ((rd_T56 x3_1 (ji19)).f1)), (rd_T56 x3_1 (ji19)).f3⟩ : S56) ) (fun _ hk => hk)
                have hx23_2 := hcc23 2 _ rfl
                (try simp only [show (k56).sz = 4 from rfl, Nat.mul_one, Nat.add_zero] at hx23_2)
                have hf23_2 := hfr23 2
                (try simp only [show (k56).sz = 4 from rfl, Nat.mul_one, Nat.add_zero] at hf23_2)
                clear hcl23 hcc23 hfr23 hM23
                go_wp2_with (first | ((with_reducible refine gate_store (t := 3) (p := 55) rfl ?_); refine store_event (t := 3) (p := 55) (v := ?vo_w24) (w1 := (wr.setCell ⟨go22, ((ji19) : Int).toNat * 4 + 2, none⟩ (.int .i64 (wrap64 ((a0.size : Int) - ((rd_T56 x3_1 (ji19)).f1)))))) ?hg ?ho ?hn ?hr ?_; (case ho => rfl); (case hg => rfl); (case hn => rfl); (case hr => first | (go_simp; done) | (go_simp; rfl)); intro w24 hw; have hg : wr.grownBy w24 (some go22) := (by rw [hw]; exact HP23.2); have hp_ : Kd.R k56 56 w24 w.heap.size (fun _ => True) (.slice (some ⟨go22, 0, none⟩) x3_1.length co17) y124 := (by rw [hw, Ny124.out]; exact HP23.1); clear HP23; have n0_ := Aside0.mk (hp_); have n1_ := Aside0.mk ((by rw [hw]; exact below_set (HB.out) GB22.out : Below w.heap.size w w24)); clear HO_3; clear HB; have HO_3 := n0_; have HB := n1_; clear n0_ n1_; clear hg hw hp_))
                go_meet
                case rel => exact ⟨_, (y124), H', ⟨by have := HK1.out; first | omega | exact Nat.le_refl _⟩, ⟨by (with_reducible repeat (first | apply Kd.R_alloc | apply Kd.R_drewN | apply Kd.R_drew)); exact HO_3.out⟩, ⟨by repeat (first | (with_reducible first | exact HB.out | apply below_alloc | apply pw_below_drewN | apply below_drew1) | exact HB.out)⟩⟩
              · rw [if_neg c21] at H
                exact absurd H (by simp)
            · rw [if_neg c20] at H
              exact absurd H (by simp)
          · rw [if_neg c18] at H
            have c18b0 : decide (0 < (x3_1.length : Int)) = false := decide_eq_false c18
            have c18b1 : decide (0 < x3_1.length) = false := decide_eq_false (by omega)
            clear c18
            (first | rw [c18b0] | rw [c18b1] | (simp only [i64_w, i32_w]; rw [c18b0]) | skip)
            have H' := Aside0.mk H
            clear H
            go_wp2
            go_meet
            case rel => exact ⟨_, (x3_1), H', ⟨by have := HK1.out; first | omega | exact Nat.le_refl _⟩, ⟨by (with_reducible repeat (first | apply Kd.R_alloc | apply Kd.R_drewN | apply Kd.R_drew)); exact HO_3.out⟩, ⟨by repeat (first | (with_reducible first | exact HB.out | apply below_alloc | apply pw_below_drewN | apply below_drew1) | exact HB.out)⟩⟩
        case rest =>
          clear HC16
          try clear c1
          try clear p1
          try clear q1
          try clear hx1
          try clear hf1
          try clear c2
          try clear c2b0
          try clear p2
          try clear q2
          try clear hx2
          try clear hf2
          try clear c3
          try clear c3b0
          try clear c3b1
          try clear c4
          try clear c5
          try clear c5b0
          try clear c6
          try clear c6b0
          try clear p6
          try clear c7
          try clear p7
          try clear q7
          try clear hx7
          try clear hf7
          try clear c8
          try clear c10
          try clear hx10
          try clear hf10
          try clear p11
          try clear q11
          try clear hx11
          try clear p12
          try clear q12
          try clear hx12
          try clear c13
          try clear c18
          try clear c18b0
          try clear c18b1
          try clear c20
          try clear c20b0
          try clear c21
          try clear c21b0
          try clear c22
          try clear p22
          try clear q22
          try clear hx22
          try clear hf22
          try clear c23
          try clear hx23
          try clear hf23
          try clear hx10_2
          try clear hx115_0
          try clear hx115_1
          try clear hx115_2
          try clear hx115_3
          try clear hx123_0
          try clear hx123_1
          try clear hx123_2
          try clear hx123_3
          try clear hx22_0
          try clear hx22_1
          try clear hx22_2
          try clear hx22_3
          try clear hx23_2
          try clear hx7_0
          try clear hx7_1
          try clear hx7_2
          try clear hx7_3
          try clear p115
          try clear p123
          try clear p22
          try clear p7
          try clear q115
          try clear q123
          try clear q22
          try clear q7
          obtain ⟨kq, x3_15, HA, HJ15, HO_3, HB⟩ := hcut
          have hl3_15 := (Kd.R_reads' HO_3.out).1
          rw [hl3_15] at HO_3
          (try simp only [hl3_15])
          cases kq with
          | zero => exact absurd HA.out (by simp [corporaref01_Units.j1])
          | succ kj15 =>
            have H := HA.out
            clear HA
            simp only [corporaref01_Units.j1] at H
            have H' := Aside0.mk H
            clear H
            go_wp2
            go_loopg [58] kj15 (fun kq v58 w' => ∃ (x3_3 : List (S56)) (x58_3 : Int), v58 = .int .i64 x58_3 ∧ Aside0 (corporaref01_Units.l1 kq x3_3 (x3_15.length : Int) x58_3 = some r) ∧ Aside0 (kq ≤ kj15) ∧ Aside0 (Kd.R k56 56 w' w.heap.size (fun _ => True) (.slice Ao17 x3_15.length co17) x3_3) ∧ Aside0 (Below w.heap.size w w'))
            case atStart => exact ⟨(x3_15), (0), (by first | rfl | (simp; done) | (simp [*]; done)), H', ⟨Nat.le_refl _⟩, ⟨by (try simp only [hl3_15]); (with_reducible repeat (first | apply Kd.R_alloc | apply Kd.R_drewN | apply Kd.R_drew)); exact HO_3.out⟩, ⟨by repeat (first | (with_reducible first | exact HB.out | apply below_alloc | apply pw_below_drewN | apply below_drew1) | exact HB.out)⟩⟩
            case round =>
              clear H'
              try clear c1
              try clear p1
              try clear q1
              try clear hx1
              try clear hf1
              try clear c2
              try clear c2b0
              try clear p2
              try clear q2
              try clear hx2
              try clear hf2
              try clear c3
              try clear c3b0
              try clear c3b1
              try clear c4
              try clear c5
              try clear c5b0
              try clear c6
              try clear c6b0
              try clear p6
              try clear c7
              try clear p7
              try clear q7
              try clear hx7
              try clear hf7
              try clear c8
              try clear c10
              try clear hx10
              try clear hf10
              try clear p11
              try clear q11
              try clear hx11
              try clear p12
              try clear q12
              try clear hx12
              try clear c13
              try clear c18
              try clear c18b0
              try clear c18b1
              try clear c20
              try clear c20b0
              try clear c21
              try clear c21b0
              try clear c22
              try clear p22
              try clear q22
              try clear hx22
              try clear hf22
              try clear c23
              try clear hx23
              try clear hf23
              try clear hx10_2
              try clear hx115_0
              try clear hx115_1
              try clear hx115_2
              try clear hx115_3
              try clear hx123_0
              try clear hx123_1
              try clear hx123_2
              try clear hx123_3
              try clear hx22_0
              try clear hx22_1
              try clear hx22_2
              try clear hx22_3
              try clear hx23_2
              try clear hx7_0
              try clear hx7_1
              try clear hx7_2
              try clear hx7_3
              try clear p1
              try clear p11
              try clear p115
              try clear p12
              try clear p123
              try clear p2
              try clear p22
              try clear p6
              try clear p7
              try clear q1
              try clear q11
              try clear q115
              try clear q12
              try clear q123
              try clear q2
              try clear q22
              try clear q7
              obtain ⟨x3_3, x58_3, rfl, HA, HK3, HO_3, HB⟩ := hrel
              have hl3_3 := (Kd.R_reads' HO_3.out).1
              rw [hl3_3] at HO_3
              (try simp only [hl3_3])
              cases gk with
              | zero => exact absurd HA.out (by simp [corporaref01_Units.l1])
              | succ k3 =>
                have H := HA.out
                clear HA
                simp only [corporaref01_Units.l1] at H
                by_cases c25 : x58_3 < (x3_15.length : Int)
                · rw [if_pos c25] at H
                  have c25b0 : decide (x58_3 < (x3_15.length : Int)) = true := decide_eq_true c25
                  clear c25
                  by_cases c26 : 0 ≤ x58_3
                  · rw [if_pos c26] at H
                    have c26b0 : decide (0 ≤ x58_3) = true := decide_eq_true c26
                    clear c26
                    by_cases c27 : x58_3 < (x3_3.length : Int)
                    · rw [if_pos c27] at H
                      have c27b0 : decide (x58_3 < (x3_3.length : Int)) = true := decide_eq_true c27
                      clear c27
                      by_cases c28 : ((rd_T56 x3_3 x58_3).f0) = 65533
                      · rw [if_pos c28] at H
                        have c28b0 : (((rd_T56 x3_3 x58_3).f0) == 65533) = true := beq_iff_eq.mpr c28
                        have c28b1 : (((rd_T56 x3_3 x58_3).f0) != 65533) = false := bne_eq_false_iff_eq.mpr c28
                        clear c28
                        obtain ⟨y127, hy127⟩ : ∃ y_ : List (S56), y_ = (x3_3.set (x58_3 : Int).toNat (⟨(rd_T56 x3_3 x58_3).f0, (rd_T56 x3_3 x58_3).f1, (rd_T56 x3_3 x58_3).f2, (((rd_T56 x3_3 x58_3).f2) == 3)⟩ : S56)) := ⟨_, rfl⟩
                        replace H : (corporaref01_Units.l1 k3 y127 (x3_15.length : Int) (wrap64 (x58_3 + 1))) = some r := by first | (rw [hy127]; with_reducible exact H) | (have H2_ := (Option.bind_some _ _).symm.trans H; rw [hy127]; with_reducible exact H2_) | (have H2_ := (Option.bind_some _ _).symm.trans H; with_reducible exact H2_) | with_reducible exact H | (rw [hy127]; exact H) | exact H
                        have Ny127 := Aside0.mk hy127
                        clear hy127
                        have H' := Aside0.mk H
                        clear H
                        have p125 : 0 ≤ (x58_3 : Int) := of_decide_eq_true (by first | (with_reducible assumption) | assumption)
                        have q125 : x58_3 < (x3_3.length : Int) := of_decide_eq_true (by first | (with_reducible assumption) | assumption)
                        obtain ⟨ad125, e125, hx125_0, hx125_1, hx125_2, hx125_3⟩ := at_T56 (Kd.R_reads' HO_3.out).2.2 x58_3 p125 q125
                        cases e125
                        replace p125 := eq_true p125
                        replace q125 := eq_true q125
                        have p126 : 0 ≤ (x58_3 : Int) := of_decide_eq_true (by first | (with_reducible assumption) | assumption)
                        have q126 : x58_3 < (x3_3.length : Int) := of_decide_eq_true (by first | (with_reducible assumption) | assumption)
                        obtain ⟨ad126, e126, hx126_0, hx126_1, hx126_2, hx126_3⟩ := at_T56 (Kd.R_reads' HO_3.out).2.2 x58_3 p126 q126
                        obtain rfl : ad125 = ad126 := (by injection e126)
                        replace p126 := eq_true p126
                        replace q126 := eq_true q126
                        have p29 : 0 ≤ (x58_3 : Int) := of_decide_eq_true (by first | (with_reducible assumption) | assumption)
                        have q29 : (x58_3 : Int) < ((x3_3.length : Int) : Int) := of_decide_eq_true (by first | (with_reducible assumption) | assumption)
                        obtain ⟨go29, co29, eo29, gb29, gl29, cl29, HG29⟩ := Kd.R_form HO_3.out (by omega)
                        (first | cases eo29 | (injection eo29 with ea_ en_ ec_; (first | subst ea_ | (injection ea_ with ea_; subst ea_)); subst ec_; clear en_))
                        have GB29 := Aside0.mk gb29
                        have GG29 := Aside0.mk HG29
                        clear gb29 gl29 HG29
                        (first | simp only [add_plain] at hx125_0 | skip)
                        (first | simp only [add_plain] at hx125_1 | skip)
                        (first | simp only [add_plain] at hx125_2 | skip)
                        (first | simp only [add_plain] at hx125_3 | skip)
                        (first | simp only [add_plain] at hx126_0 | skip)
                        (first | simp only [add_plain] at hx126_1 | skip)
                        (first | simp only [add_plain] at hx126_2 | skip)
                        (first | simp only [add_plain] at hx126_3 | skip)
                        obtain ⟨ce29, hcl29, hM29, hcc29, hfr29⟩ := Kd.R_elem HO_3.out z56 (x58_3 : Int) p29 q29
                        obtain rfl := k56_openM hM29
                        have hx29_0 : wr.cell? ⟨go29, (x58_3 : Int).toNat * 4, none⟩ = some (.int .i32 ((rd_T56 x3_3 x58_3).f0)) := hcc29 0 _ rfl
                        have hx29_1 : wr.cell? ⟨go29, (x58_3 : Int).toNat * 4 + 1, none⟩ = some (.int .i64 ((rd_T56 x3_3 x58_3).f1)) := hcc29 1 _ rfl
                        have hx29_2 : wr.cell? ⟨go29, (x58_3 : Int).toNat * 4 + 2, none⟩ = some (.int .i64 ((rd_T56 x3_3 x58_3).f2)) := hcc29 2 _ rfl
                        have hx29_3 : wr.cell? ⟨go29, (x58_3 : Int).toNat * 4 + 3, none⟩ = some (.bool ((rd_T56 x3_3 x58_3).f3)) := hcc29 3 _ rfl
                        have hf29_0 : wr.frozen? ⟨go29, (x58_3 : Int).toNat * 4, none⟩ = false := hfr29 0
                        have hf29_1 : wr.frozen? ⟨go29, (x58_3 : Int).toNat * 4 + 1, none⟩ = false := hfr29 1
                        have hf29_2 : wr.frozen? ⟨go29, (x58_3 : Int).toNat * 4 + 2, none⟩ = false := hfr29 2
                        have hf29_3 : wr.frozen? ⟨go29, (x58_3 : Int).toNat * 4 + 3, none⟩ = false := hfr29 3
                        clear hcl29 hcc29 hfr29 hM29
                        replace p29 := eq_true p29
                        replace q29 := eq_true q29
                        have HX30 := Aside0.mk (show Kd.R k56 56 wr w.heap.size (fun _ => True) (.slice (some ⟨go29, 0, none⟩) x3_3.length co17) x3_3 from (by (with_reducible repeat (first | apply Kd.R_alloc | apply Kd.R_drewN | apply Kd.R_drew)); exact HO_3.out))
                        obtain ⟨ce30, hcl30, hM30, hcc30, hfr30⟩ := Kd.R_elem HX30.out z56 (x58_3 : Int) (of_decide_eq_true (by first | (with_reducible assumption) | assumption)) (by have h_ : (x58_3 : Int) < ((x3_3.length : Int) : Int) := of_decide_eq_true (by first | (with_reducible assumption) | assumption); first | exact h_ | (have e_ := (Kd.R_reads' HO_3.out).1; omega) | simpa using h_)
                        obtain rfl := k56_openM hM30
                        have HP30 := Kd.R_seg HX30.out (x58_3 : Int) (of_decide_eq_true (by first | (with_reducible assumption) | assumption)) (by have h_ : (x58_3 : Int) < ((x3_3.length : Int) : Int) := of_decide_eq_true (by first | (with_reducible assumption) | assumption); first | exact h_ | (have e_ := (Kd.R_reads' HO_3.out).1; omega) | simpa using h_) (seg := [.bool (((rd_T56 x3_3 x58_3).f2) == 3)]) (j := 3) hcl30 hcc30 (show 4 ≤ 4 from by decide) (x' := (⟨(rd_T56 x3_3 x58_3).f0, (rd_T56 x3_3 x58_3).f1, (rd_T56 x3_3 x58_3).f2, (((rd_T56 x3_3 x58_3).f2) == 3)⟩ : S56)) (k56_mkM _ _ _ (⟨(rd_T56 x3_3 x58_3).f0, (rd_T56 x3_3 x58_3).f1, (rd_T56 x3_3 x58_3).f2, (((rd_T56 x3_3 x58_3).f2) == 3)⟩ : S56) ) (fun _ hk => hk)
                        have hx30_3 := hcc30 3 _ rfl
                        (try simp only [show (k56).sz = 4 from rfl, Nat.mul_one, Nat.add_zero] at hx30_3)
                        have hf30_3 := hfr30 3
                        (try simp only [show (k56).sz = 4 from rfl, Nat.mul_one, Nat.add_zero] at hf30_3)
                        clear hcl30 hcc30 hfr30 hM30
                        go_wp2_with (first | ((with_reducible refine gate_store (t := 4) (p := 78) rfl ?_); refine store_event (t := 4) (p := 78) (v := ?vo_w31) (w1 := (wr.setCell ⟨go29, (x58_3 : Int).toNat * 4 + 3, none⟩ (.bool (((rd_T56 x3_3 x58_3).f2) == 3)))) ?hg ?ho ?hn ?hr ?_; (case ho => rfl); (case hg => rfl); (case hn => rfl); (case hr => first | (go_simp; done) | (go_simp; rfl)); intro w31 hw; have hg : wr.grownBy w31 (some go29) := (by rw [hw]; exact HP30.2); have hp_ : Kd.R k56 56 w31 w.heap.size (fun _ => True) (.slice (some ⟨go29, 0, none⟩) x3_3.length co17) y127 := (by rw [hw, Ny127.out]; exact HP30.1); clear HP30; have n0_ := Aside0.mk (hp_); have n1_ := Aside0.mk ((by rw [hw]; exact below_set (HB.out) GB29.out : Below w.heap.size w w31)); clear HO_3; clear HB; have HO_3 := n0_; have HB := n1_; clear n0_ n1_; clear hg hw hp_))
                        (try simp only [← hl3_3])
                        go_roundg k3
                        case measure => have := HK1.out; have := HJ15.out; have := HK3.out; omega
                        case rel => exact ⟨(y127), (wrap64 (x58_3 + 1)), (by first | rfl | (simp; done) | (simp [*]; done)), H', ⟨by have := HK1.out; have := HJ15.out; have := HK3.out; omega⟩, ⟨by (try simp only [hl3_15]); (try simp only [hl3_3]); (with_reducible repeat (first | apply Kd.R_alloc | apply Kd.R_drewN | apply Kd.R_drew)); exact HO_3.out⟩, ⟨by repeat (first | (with_reducible first | exact HB.out | apply below_alloc | apply pw_below_drewN | apply below_drew1) | exact HB.out)⟩⟩
                      · rw [if_neg c28] at H
                        have c28b0 : (((rd_T56 x3_3 x58_3).f0) == 65533) = false := beq_eq_false_iff_ne.mpr c28
                        have c28b1 : (((rd_T56 x3_3 x58_3).f0) != 65533) = true := bne_iff_ne.mpr c28
                        obtain ⟨y128, hy128⟩ : ∃ y_ : List (S56), y_ = (x3_3.set (x58_3 : Int).toNat (⟨(rd_T56 x3_3 x58_3).f0, (rd_T56 x3_3 x58_3).f1, (rd_T56 x3_3 x58_3).f2, true⟩ : S56)) := ⟨_, rfl⟩
                        replace H : (corporaref01_Units.l1 k3 y128 (x3_15.length : Int) (wrap64 (x58_3 + 1))) = some r := by first | (rw [hy128]; with_reducible exact H) | (have H2_ := (Option.bind_some _ _).symm.trans H; rw [hy128]; with_reducible exact H2_) | (have H2_ := (Option.bind_some _ _).symm.trans H; with_reducible exact H2_) | with_reducible exact H | (rw [hy128]; exact H) | exact H
                        have Ny128 := Aside0.mk hy128
                        clear hy128
                        have H' := Aside0.mk H
                        clear H
                        have p125 : 0 ≤ (x58_3 : Int) := of_decide_eq_true (by first | (with_reducible assumption) | assumption)
                        have q125 : x58_3 < (x3_3.length : Int) := of_decide_eq_true (by first | (with_reducible assumption) | assumption)
                        obtain ⟨ad125, e125, hx125_0, hx125_1, hx125_2, hx125_3⟩ := at_T56 (Kd.R_reads' HO_3.out).2.2 x58_3 p125 q125
                        cases e125
                        replace p125 := eq_true p125
                        replace q125 := eq_true q125
                        have p32 : 0 ≤ (x58_3 : Int) := of_decide_eq_true (by first | (with_reducible assumption) | assumption)
                        have q32 : (x58_3 : Int) < ((x3_3.length : Int) : Int) := of_decide_eq_true (by first | (with_reducible assumption) | assumption)
                        obtain ⟨go32, co32, eo32, gb32, gl32, cl32, HG32⟩ := Kd.R_form HO_3.out (by omega)
                        (first | cases eo32 | (injection eo32 with ea_ en_ ec_; (first | subst ea_ | (injection ea_ with ea_; subst ea_)); subst ec_; clear en_))
                        have GB32 := Aside0.mk gb32
                        have GG32 := Aside0.mk HG32
                        clear gb32 gl32 HG32
                        (first | simp only [add_plain] at hx125_0 | skip)
                        (first | simp only [add_plain] at hx125_1 | skip)
                        (first | simp only [add_plain] at hx125_2 | skip)
                        (first | simp only [add_plain] at hx125_3 | skip)
                        obtain ⟨ce32, hcl32, hM32, hcc32, hfr32⟩ := Kd.R_elem HO_3.out z56 (x58_3 : Int) p32 q32
                        obtain rfl := k56_openM hM32
                        have hx32_0 : wr.cell? ⟨go32, (x58_3 : Int).toNat * 4, none⟩ = some (.int .i32 ((rd_T56 x3_3 x58_3).f0)) := hcc32 0 _ rfl
                        have hx32_1 : wr.cell? ⟨go32, (x58_3 : Int).toNat * 4 + 1, none⟩ = some (.int .i64 ((rd_T56 x3_3 x58_3).f1)) := hcc32 1 _ rfl
                        have hx32_2 : wr.cell? ⟨go32, (x58_3 : Int).toNat * 4 + 2, none⟩ = some (.int .i64 ((rd_T56 x3_3 x58_3).f2)) := hcc32 2 _ rfl
                        have hx32_3 : wr.cell? ⟨go32, (x58_3 : Int).toNat * 4 + 3, none⟩ = some (.bool ((rd_T56 x3_3 x58_3).f3)) := hcc32 3 _ rfl
                        have hf32_0 : wr.frozen? ⟨go32, (x58_3 : Int).toNat * 4, none⟩ = false := hfr32 0
                        have hf32_1 : wr.frozen? ⟨go32, (x58_3 : Int).toNat * 4 + 1, none⟩ = false := hfr32 1
                        have hf32_2 : wr.frozen? ⟨go32, (x58_3 : Int).toNat * 4 + 2, none⟩ = false := hfr32 2
                        have hf32_3 : wr.frozen? ⟨go32, (x58_3 : Int).toNat * 4 + 3, none⟩ = false := hfr32 3
                        clear hcl32 hcc32 hfr32 hM32
                        replace p32 := eq_true p32
                        replace q32 := eq_true q32
                        have HX33 := Aside0.mk (show Kd.R k56 56 wr w.heap.size (fun _ => True) (.slice (some ⟨go32, 0, none⟩) x3_3.length co17) x3_3 from (by (with_reducible repeat (first | apply Kd.R_alloc | apply Kd.R_drewN | apply Kd.R_drew)); exact HO_3.out))
                        obtain ⟨ce33, hcl33, hM33, hcc33, hfr33⟩ := Kd.R_elem HX33.out z56 (x58_3 : Int) (of_decide_eq_true (by first | (with_reducible assumption) | assumption)) (by have h_ : (x58_3 : Int) < ((x3_3.length : Int) : Int) := of_decide_eq_true (by first | (with_reducible assumption) | assumption); first | exact h_ | (have e_ := (Kd.R_reads' HO_3.out).1; omega) | simpa using h_)
                        obtain rfl := k56_openM hM33
                        have HP33 := Kd.R_seg HX33.out (x58_3 : Int) (of_decide_eq_true (by first | (with_reducible assumption) | assumption)) (by have h_ : (x58_3 : Int) < ((x3_3.length : Int) : Int) := of_decide_eq_true (by first | (with_reducible assumption) | assumption); first | exact h_ | (have e_ := (Kd.R_reads' HO_3.out).1; omega) | simpa using h_) (seg := [.bool true]) (j := 3) hcl33 hcc33 (show 4 ≤ 4 from by decide) (x' := (⟨(rd_T56 x3_3 x58_3).f0, (rd_T56 x3_3 x58_3).f1, (rd_T56 x3_3 x58_3).f2, true⟩ : S56)) (k56_mkM _ _ _ (⟨(rd_T56 x3_3 x58_3).f0, (rd_T56 x3_3 x58_3).f1, (rd_T56 x3_3 x58_3).f2, true⟩ : S56) ) (fun _ hk => hk)
                        have hx33_3 := hcc33 3 _ rfl
                        (try simp only [show (k56).sz = 4 from rfl, Nat.mul_one, Nat.add_zero] at hx33_3)
                        have hf33_3 := hfr33 3
                        (try simp only [show (k56).sz = 4 from rfl, Nat.mul_one, Nat.add_zero] at hf33_3)
                        clear hcl33 hcc33 hfr33 hM33
                        go_wp2_with (first | ((with_reducible refine gate_store (t := 4) (p := 78) rfl ?_); refine store_event (t := 4) (p := 78) (v := ?vo_w34) (w1 := (wr.setCell ⟨go32, (x58_3 : Int).toNat * 4 + 3, none⟩ (.bool true))) ?hg ?ho ?hn ?hr ?_; (case ho => rfl); (case hg => rfl); (case hn => rfl); (case hr => first | (go_simp; done) | (go_simp; rfl)); intro w34 hw; have hg : wr.grownBy w34 (some go32) := (by rw [hw]; exact HP33.2); have hp_ : Kd.R k56 56 w34 w.heap.size (fun _ => True) (.slice (some ⟨go32, 0, none⟩) x3_3.length co17) y128 := (by rw [hw, Ny128.out]; exact HP33.1); clear HP33; have n0_ := Aside0.mk (hp_); have n1_ := Aside0.mk ((by rw [hw]; exact below_set (HB.out) GB32.out : Below w.heap.size w w34)); clear HO_3; clear HB; have HO_3 := n0_; have HB := n1_; clear n0_ n1_; clear hg hw hp_))
                        (try simp only [← hl3_3])
                        go_roundg k3
                        case measure => have := HK1.out; have := HJ15.out; have := HK3.out; omega
                        case rel => exact ⟨(y128), (wrap64 (x58_3 + 1)), (by first | rfl | (simp; done) | (simp [*]; done)), H', ⟨by have := HK1.out; have := HJ15.out; have := HK3.out; omega⟩, ⟨by (try simp only [hl3_15]); (try simp only [hl3_3]); (with_reducible repeat (first | apply Kd.R_alloc | apply Kd.R_drewN | apply Kd.R_drew)); exact HO_3.out⟩, ⟨by repeat (first | (with_reducible first | exact HB.out | apply below_alloc | apply pw_below_drewN | apply below_drew1) | exact HB.out)⟩⟩
                    · rw [if_neg c27] at H
                      exact absurd H (by simp)
                  · rw [if_neg c26] at H
                    exact absurd H (by simp)
                · rw [if_neg c25] at H
                  have c25b0 : decide (x58_3 < (x3_15.length : Int)) = false := decide_eq_false c25
                  have c25b1 : decide (x58_3 < (x3_3.length : Int)) = false := by rw [← hl3_3]; exact c25b0
                  clear c25
                  obtain rfl := Option.some.inj H
                  go_wp2
                  go_ret
                  exact ⟨_, by first | rfl | (simp [errW_none, errW_some] <;> rfl) | (simp [*, errW_none, errW_some] <;> rfl), by (with_reducible repeat (first | apply Kd.R_alloc | apply Kd.R_drewN | apply Kd.R_drew)); exact HO_3.out, by repeat (first | (with_reducible first | exact HB.out | apply below_alloc | apply pw_below_drewN | apply below_drew1) | exact HB.out)⟩

end Go.Proofs.Ytcgglamgemgeiaa.Q
/- FCorporaref01Valid -/
namespace Go.Proofs.Ytcgglamgemgeiaa.Q
open Go.RowKit Go.Proofs.YtcgglamgemgeiaaW.PrintWords Go.Proofs.YtcgglamgemgeiaaW.PrintLast Go.Proofs.YtcgglamgemgeiaaW.PrintMore
attribute [local go_sem] max2_int min2_int max_two min_two max_three min_three max_four min_four   -- for this text's walks alone
set_option linter.unusedVariables false
set_option linter.unusedSimpArgs false

/-! ### corporaref01_Valid: function 37 -/
def corporaref01_Valid.l0 : Nat → List (S56) → Int → Int → Option (Bool)
  | 0, _, _, _ => none
  | k + 1, x6, x7, x8 => if x8 < x7 then (if 0 ≤ x8 then (if x8 < (x6.length : Int) then (if ((rd_T56 x6 x8).f3 = true) then (corporaref01_Valid.l0 k x6 x7 (wrap64 (x8 + 1))) else (some false)) else (none)) else (none)) else (some true)
def corporaref01_Valid.f (k : Nat) (a0 : ByteArray) : Option (Bool) := (corporaref01_Units.f k a0).bind fun t129 => (corporaref01_Valid.l0 k t129 (t129.length : Int) 0)
theorem corporaref01_Valid.mono_l : ∀ k, (∀ y0 y1 y2, LeO (corporaref01_Valid.l0 k y0 y1 y2) (corporaref01_Valid.l0 (k + 1) y0 y1 y2))
  | 0 => fun _ _ _ r h => by simp [corporaref01_Valid.l0] at h
  | k + 1 => by
    have ih0 := corporaref01_Valid.mono_l k
    · intro y0 y1 y2
      unfold corporaref01_Valid.l0
      repeat' first
      | (with_reducible exact ih0 _ _ _)
      | (with_reducible exact corporaref01_Units.mono _ _)
      | (with_reducible exact LeO.refl _)
      | (with_reducible exact LeO.none _)
      | (with_reducible refine LeO.ite ?_ ?_)
      | (with_reducible refine LeO.bind ?_ (fun _ => ?_))
      | exact ih0 _ _ _
      | exact corporaref01_Units.mono _ _
      | exact LeO.none _
      | refine LeO.ite ?_ ?_
      | refine LeO.bind ?_ (fun _ => ?_)
theorem corporaref01_Valid.mono : ∀ a0 k, LeO (corporaref01_Valid.f k a0) (corporaref01_Valid.f (k + 1) a0) := by
  intro a0 k
  have ih0 := corporaref01_Valid.mono_l k
  unfold corporaref01_Valid.f
  repeat' first
      | (with_reducible exact ih0 _ _ _)
      | (with_reducible exact corporaref01_Units.mono _ _)
      | (with_reducible exact LeO.refl _)
      | (with_reducible exact LeO.none _)
      | (with_reducible refine LeO.ite ?_ ?_)
      | (with_reducible refine LeO.bind ?_ (fun _ => ?_))
      | exact ih0 _ _ _
      | exact corporaref01_Units.mono _ _
      | exact LeO.none _
      | refine LeO.ite ?_ ?_
      | refine LeO.bind ?_ (fun _ => ?_)
set_option maxHeartbeats 8000000 in
set_option maxRecDepth 100000 in
theorem corporaref01_Valid.calls (k : Nat) (a0 : ByteArray) (r : Bool) (w : World) (h : corporaref01_Valid.f k a0 = some r) :
    Calls Try.prog 37 #[.string a0] w fun e w' => e = .returned (.bool r) ∧ Below w.heap.size w w' := by
  have hu56 := Try.underlying56
  have HB := Aside0.mk (Below.refl w.heap.size w)
  have H : ((corporaref01_Units.f k a0).bind fun t129 => (corporaref01_Valid.l0 k t129 (t129.length : Int) 0)) = some r := h
  clear h
  replace H := Option.bind_eq_some_iff.mp H
  obtain ⟨t129, A20, H⟩ := H
  replace H : (corporaref01_Valid.l0 k t129 (t129.length : Int) 0) = some r := H
  have A2 := Aside0.mk A20
  clear A20
  have H' := Aside0.mk H
  clear H
  go_enter Try.func37, Try.ntmps37
  go_wp2_with (first | ((with_reducible refine gate_callee (f := 41) rfl ?_); refine goesL_ (some 6) rfl rfl Try.func41 (by kernel_rfl) rfl #[.string a0] rfl (by (try simp only [List.map_toArray, List.map_cons, List.map_nil]); first | done | rfl | (simp only [List.length_drop, List.length_take]; rfl)) ?_; (with_reducible refine (corporaref01_Units.calls k a0 t129 _ A2.out).mono ?_); rintro e w3 ⟨v130, rfl, ho0, hb⟩; refine ⟨_, rfl, ?_⟩; have n0_ := Aside0.mk (Kd.R_lower ho0 (below_size (by repeat (first | (with_reducible first | exact HB.out | apply below_alloc | apply pw_below_drewN | apply below_drew1) | exact HB.out)))); have n1_ := Aside0.mk (below_step (by repeat (first | (with_reducible first | exact HB.out | apply below_alloc | apply pw_below_drewN | apply below_drew1) | exact HB.out)) hb); clear HB; have HO131 := n0_; have HB := n1_; clear n0_ n1_; (try clear hb); (try clear hb2); (try clear hk); (try clear hi); (try clear ho0); obtain ⟨Ao4, co4, eo4⟩ := Kd.R_slice HO131.out; subst eo4))
  go_loopg [8] k (fun kq v8 w' => ∃ (x8_1 : Int), v8 = .int .i64 x8_1 ∧ Aside0 (corporaref01_Valid.l0 kq t129 (t129.length : Int) x8_1 = some r) ∧ Aside0 (kq ≤ k) ∧ Aside0 (Kd.R k56 56 w' w.heap.size (fun _ => True) (.slice Ao4 t129.length co4) t129) ∧ Aside0 (Below w.heap.size w w'))
  case atStart => exact ⟨(0), (by first | rfl | (simp; done) | (simp [*]; done)), H', ⟨Nat.le_refl _⟩, ⟨by (with_reducible repeat (first | apply Kd.R_alloc | apply Kd.R_drewN | apply Kd.R_drew)); exact HO131.out⟩, ⟨by repeat (first | (with_reducible first | exact HB.out | apply below_alloc | apply pw_below_drewN | apply below_drew1) | exact HB.out)⟩⟩
  case round =>
    clear H'
    try clear p2
    try clear c3
    try clear c4
    obtain ⟨x8_1, rfl, HA, HK1, HO_6, HB⟩ := hrel
    cases gk with
    | zero => exact absurd HA.out (by simp [corporaref01_Valid.l0])
    | succ k1 =>
      have H := HA.out
      clear HA
      simp only [corporaref01_Valid.l0] at H
      by_cases c5 : x8_1 < (t129.length : Int)
      · rw [if_pos c5] at H
        have c5b0 : decide (x8_1 < (t129.length : Int)) = true := decide_eq_true c5
        clear c5
        by_cases c6 : 0 ≤ x8_1
        · rw [if_pos c6] at H
          have c6b0 : decide (0 ≤ x8_1) = true := decide_eq_true c6
          clear c6
          by_cases c7 : x8_1 < (t129.length : Int)
          · rw [if_pos c7] at H
            have c7b0 : decide (x8_1 < (t129.length : Int)) = true := decide_eq_true c7
            clear c7
            obtain ⟨bq8, hbq8⟩ : ∃ b_ : Bool, b_ = ((rd_T56 t129 x8_1).f3) := ⟨_, rfl⟩
            replace H : (if (bq8 = true) then (corporaref01_Valid.l0 k1 t129 (t129.length : Int) (wrap64 (x8_1 + 1))) else (some false)) = some r := by rw [← hbq8] at H; exact H
            have Nbq8 := Aside0.mk hbq8
            clear hbq8
            by_cases c9 : (bq8 = true)
            · subst c9
              have H1 : (corporaref01_Valid.l0 k1 t129 (t129.length : Int) (wrap64 (x8_1 + 1))) = some r := by rw [if_pos rfl] at H; exact H
              clear H
              have H := H1
              clear H1
              have H' := Aside0.mk H
              clear H
              have p132 : 0 ≤ (x8_1 : Int) := of_decide_eq_true (by first | (with_reducible assumption) | assumption)
              have q132 : x8_1 < (t129.length : Int) := of_decide_eq_true (by first | (with_reducible assumption) | assumption)
              obtain ⟨ad132, e132, hx132_0, hx132_1, hx132_2, hx132_3⟩ := at_T56 (Kd.R_reads' HO_6.out).2.2 x8_1 p132 q132
              (try rw [← Nbq8.out] at hx132_3)
              cases e132
              replace p132 := eq_true p132
              replace q132 := eq_true q132
              go_wp2_with (first | ((with_reducible refine gate_dst (N := 4) rfl ?_); refine box_event ?hg (N := 4) ?hd (cs := #[.int .i32 0, .int .i64 0, .int .i64 0, .bool false]) (t := 56) ?hr ?_; (case hd => rfl); (case hg => rfl); (case hr => first | (go_simp; done) | (go_simp; rfl)); intro gb133 hg w10 hbox hb; have n0_ := Aside0.mk (Kd.R_below (Kd.R_elderB (by (with_reducible repeat (first | apply Kd.R_alloc | apply Kd.R_drewN | apply Kd.R_drew)); exact HO_6.out) gb133 (Nat.le_of_eq hg.symm)) hb); have n1_ := Aside0.mk (below_step (by repeat (first | (with_reducible first | exact HB.out | apply below_alloc | apply pw_below_drewN | apply below_drew1) | exact HB.out)) hb); have n2_ := Aside0.mk (hbox); have n3_ := Aside0.mk ((by rw [hg]; exact (below_size (by repeat (first | (with_reducible first | exact HB.out | apply below_alloc | apply pw_below_drewN | apply below_drew1) | exact HB.out))) : w.heap.size ≤ gb133)); have n4_ := Aside0.mk ((by rw [hg]; exact (below_size (by repeat (first | (with_reducible first | exact HB.out | apply below_alloc | apply pw_below_drewN | apply below_drew1) | exact HB.out))) : w.heap.size ≤ gb133)); clear HO_6; clear HB; have HO_6 := n0_; have HB := n1_; have BK133 := n2_; have GW133 := n3_; have GE133 := n4_; clear n0_ n1_ n2_ n3_ n4_; clear hb hbox hg; have hcz11_0 : w10.cell? ⟨gb133, 0, none⟩ = some (.int .i32 0) := (blk_cell BK133.out 0).trans rfl; have hcz11_1 : w10.cell? ⟨gb133, 1, none⟩ = some (.int .i64 0) := (blk_cell BK133.out 1).trans rfl; have hcz11_2 : w10.cell? ⟨gb133, 2, none⟩ = some (.int .i64 0) := (blk_cell BK133.out 2).trans rfl; have hcz11_3 : w10.cell? ⟨gb133, 3, none⟩ = some (.bool false) := (blk_cell BK133.out 3).trans rfl; have hfz11_0 := blk_frozen BK133.out 0; have hfz11_1 := blk_frozen BK133.out 1; have hfz11_2 := blk_frozen BK133.out 2; have hfz11_3 := blk_frozen BK133.out 3))
              go_roundg k1
              case measure => have := HK1.out; omega
              case rel => exact ⟨(wrap64 (x8_1 + 1)), (by first | rfl | (simp; done) | (simp [*]; done)), H', ⟨by have := HK1.out; omega⟩, ⟨by (with_reducible repeat (first | apply Kd.R_alloc | apply Kd.R_drewN | apply Kd.R_drew)); exact Kd.R_mono (Kd.R_far (p := ⟨gb133, 3, none⟩) (Kd.R_far (p := ⟨gb133, 2, none⟩) (Kd.R_far (p := ⟨gb133, 1, none⟩) (Kd.R_far (p := ⟨gb133, 0, none⟩) (Kd.R_mono HO_6.out (fun k_ hk => (⟨hk, hk.2⟩ : _ ∧ k_ ≠ gb133))) (fun _ hk => hk.2) (.int .i32 ((rd_T56 t129 x8_1).f0))) (fun _ hk => hk.2) (.int .i64 ((rd_T56 t129 x8_1).f1))) (fun _ hk => hk.2) (.int .i64 ((rd_T56 t129 x8_1).f2))) (fun _ hk => hk.2) (.bool true)) (fun _ hk => trivial)⟩, ⟨by repeat (first | (with_reducible first | exact HB.out | apply below_alloc | apply pw_below_drewN | apply below_drew1 | refine below_set ?_ GE133.out) | exact HB.out)⟩⟩
            · replace c9 := Bool.eq_false_iff.mpr c9
              subst c9
              have H1 : (some false) = some r := by rw [if_neg (show ¬ (false = true) by decide)] at H; exact H
              clear H
              have H := H1
              clear H1
              obtain rfl := Option.some.inj H
              have p132 : 0 ≤ (x8_1 : Int) := of_decide_eq_true (by first | (with_reducible assumption) | assumption)
              have q132 : x8_1 < (t129.length : Int) := of_decide_eq_true (by first | (with_reducible assumption) | assumption)
              obtain ⟨ad132, e132, hx132_0, hx132_1, hx132_2, hx132_3⟩ := at_T56 (Kd.R_reads' HO_6.out).2.2 x8_1 p132 q132
              (try rw [← Nbq8.out] at hx132_3)
              cases e132
              replace p132 := eq_true p132
              replace q132 := eq_true q132
              go_wp2_with (first | ((with_reducible refine gate_dst (N := 4) rfl ?_); refine box_event ?hg (N := 4) ?hd (cs := #[.int .i32 0, .int .i64 0, .int .i64 0, .bool false]) (t := 56) ?hr ?_; (case hd => rfl); (case hg => rfl); (case hr => first | (go_simp; done) | (go_simp; rfl)); intro gb133 hg w12 hbox hb; have n0_ := Aside0.mk (Kd.R_below (Kd.R_elderB (by (with_reducible repeat (first | apply Kd.R_alloc | apply Kd.R_drewN | apply Kd.R_drew)); exact HO_6.out) gb133 (Nat.le_of_eq hg.symm)) hb); have n1_ := Aside0.mk (below_step (by repeat (first | (with_reducible first | exact HB.out | apply below_alloc | apply pw_below_drewN | apply below_drew1) | exact HB.out)) hb); have n2_ := Aside0.mk (hbox); have n3_ := Aside0.mk ((by rw [hg]; exact (below_size (by repeat (first | (with_reducible first | exact HB.out | apply below_alloc | apply pw_below_drewN | apply below_drew1) | exact HB.out))) : w.heap.size ≤ gb133)); have n4_ := Aside0.mk ((by rw [hg]; exact (below_size (by repeat (first | (with_reducible first | exact HB.out | apply below_alloc | apply pw_below_drewN | apply below_drew1) | exact HB.out))) : w.heap.size ≤ gb133)); clear HO_6; clear HB; have HO_6 := n0_; have HB := n1_; have BK133 := n2_; have GW133 := n3_; have GE133 := n4_; clear n0_ n1_ n2_ n3_ n4_; clear hb hbox hg; have hcz13_0 : w12.cell? ⟨gb133, 0, none⟩ = some (.int .i32 0) := (blk_cell BK133.out 0).trans rfl; have hcz13_1 : w12.cell? ⟨gb133, 1, none⟩ = some (.int .i64 0) := (blk_cell BK133.out 1).trans rfl; have hcz13_2 : w12.cell? ⟨gb133, 2, none⟩ = some (.int .i64 0) := (blk_cell BK133.out 2).trans rfl; have hcz13_3 : w12.cell? ⟨gb133, 3, none⟩ = some (.bool false) := (blk_cell BK133.out 3).trans rfl; have hfz13_0 := blk_frozen BK133.out 0; have hfz13_1 := blk_frozen BK133.out 1; have hfz13_2 := blk_frozen BK133.out 2; have hfz13_3 := blk_frozen BK133.out 3))
              go_ret
              exact ⟨by first | rfl | (simp [errW_none, errW_some] <;> rfl) | (simp [*, errW_none, errW_some] <;> rfl), by repeat (first | (with_reducible first | exact HB.out | apply below_alloc | apply pw_below_drewN | apply below_drew1 | refine below_set ?_ GE133.out) | exact HB.out)⟩
          · rw [if_neg c7] at H
            exact absurd H (by simp)
        · rw [if_neg c6] at H
          exact absurd H (by simp)
      · rw [if_neg c5] at H
        have c5b0 : decide (x8_1 < (t129.length : Int)) = false := decide_eq_false c5
        clear c5
        obtain rfl := Option.some.inj H
        go_wp2
        go_ret
        exact ⟨by first | rfl | (simp [errW_none, errW_some] <;> rfl) | (simp [*, errW_none, errW_some] <;> rfl), by repeat (first | (with_reducible first | exact HB.out | apply below_alloc | apply pw_below_drewN | apply below_drew1) | exact HB.out)⟩

end Go.Proofs.Ytcgglamgemgeiaa.Q
/- EvAid -/
namespace Go.Proofs.Ytcgglamgemgeiaa.Q
open Go.RowKit Go.Lib Go.Proofs.YtcgglamgemgeiaaW.PrintWords Go.Proofs.YtcgglamgemgeiaaW.PrintLast
/-- The number in a slot. -/
def ixOf : Value → Nat
  | .int _ n => n.toNat
  | _ => 0
theorem ev_pos {α : Type} {c : Prop} [Decidable c] {f g : Nat → Option α} {r : α} (h : c) (e : Ev f r) : Ev (fun k => if c then f k else g k) r := Ev.congr (fun _ => if_pos h) e
theorem ev_neg {α : Type} {c : Prop} [Decidable c] {f g : Nat → Option α} {r : α} (h : ¬ c) (e : Ev g r) : Ev (fun k => if c then f k else g k) r := Ev.congr (fun _ => if_neg h) e
theorem ev_some {α β : Type} {a : α} {f : Nat → α → Option β} {r : β} (e : Ev (fun k => f k a) r) : Ev (fun k => (some a).bind (f k)) r := e
theorem ev_now {α : Type} {r r' : α} (h : r = r') : Ev (fun _ => some r) r' := by subst h; exact Ev.now r
theorem ev_eq {α : Type} {f : Nat → Option α} {r r' : α} (e : Ev f r) (h : r = r') : Ev f r' := h ▸ e
theorem wrap_up (i : Nat) (h : i ≤ 4611686018427387904) : wrap64 ((i : Int) + 1) = ((i + 1 : Nat) : Int) := by
  unfold wrap64; omega
theorem wrap_dn (i : Nat) (h0 : 1 ≤ i) (h : i ≤ 4611686018427387904) : wrap64 ((i : Int) - 1) = ((i - 1 : Nat) : Int) := by
  unfold wrap64; omega
end Go.Proofs.Ytcgglamgemgeiaa.Q
/- RefUtf -/
namespace Go.Proofs.Ytcgglamgemgeiaa.Q
open Go.RowKit Go.Lib Go.Proofs.YtcgglamgemgeiaaW.PrintWords Go.Proofs.YtcgglamgemgeiaaW.PrintLast
/-- The unit at a place, without its flag. -/
def uAt (s : ByteArray) (p : Nat) : S56 := ⟨((Utf8.decode s p).1 : Int), (p : Int), ((Utf8.decode s p).2 : Int), false⟩
def uOpen (s : ByteArray) (p : Nat) : S56 := ⟨((Utf8.decode s p).1 : Int), (p : Int), 0, false⟩
def okS (u : S56) : Bool := if u.f0 = 65533 then u.f2 == 3 else true
def setOK (u : S56) : S56 := ⟨u.f0, u.f1, u.f2, okS u⟩
/-- m: the units from a place on. -/
inductive UL (s : ByteArray) : Nat → List S56 → Prop
  | nil {pos : Nat} : ¬ pos < s.size → UL s pos []
  | cons {pos : Nat} {m : List S56} : pos < s.size → UL s (pos + (Utf8.decode s pos).2) m → UL s pos (uAt s pos :: m)
theorem UL.exists (s : ByteArray) : ∀ d pos : Nat, s.size ≤ pos + d → ∃ m, UL s pos m := by
  intro d
  induction d with
  | zero => intro pos h; exact ⟨[], .nil (by omega)⟩
  | succ d ih =>
    intro pos h
    by_cases hp : pos < s.size
    · have := width_pos s pos
      obtain ⟨m, hm⟩ := ih (pos + (Utf8.decode s pos).2) (by omega)
      exact ⟨_, .cons hp hm⟩
    · exact ⟨[], .nil hp⟩
theorem UL.len {s : ByteArray} {pos : Nat} {m : List S56} (h : UL s pos m) : pos ≤ s.size → m.length + pos ≤ s.size := by
  induction h with
  | nil h => intro h'; simp; omega
  | cons h _ ih =>
    intro h'
    have := width_pos s ‹Nat›
    rename_i pos m _
    have h1 := width_pos s pos
    have h2 := width_le s pos h
    have := ih h2
    simp only [List.length_cons]; omega
theorem okS_u (s : ByteArray) (p : Nat) : okS (uAt s p) = okU s p := by
  have h := unit_valid_f s p
  unfold codepoint_unit_valid.f at h
  unfold okS uAt
  simp only
  by_cases h1 : ((Utf8.decode s p).1 : Int) = 65533
  · rw [if_pos h1] at h ⊢
    exact Option.some.inj h
  · rw [if_neg h1] at h ⊢
    exact Option.some.inj h
theorem UL.ok {s : ByteArray} {pos : Nat} {m : List S56} (h : UL s pos m) : m.all okS = validD (s.data.toList.drop pos) := by
  induction h with
  | nil h => rw [drop_end s _ h, validD_nil]; rfl
  | cons h _ ih => rw [List.all_cons, okS_u, ih, valid_step_at s _ h]
theorem rdT (l : List S56) (i : Nat) (h : i < l.length) : rd_T56 l (i : Int) = l[i] := by
  unfold rd_T56; rw [Int.toNat_natCast, List.getD_eq_getElem?_getD, List.getElem?_eq_getElem h]; rfl
theorem units_l1 (l : List S56) (hl : l.length ≤ 1073741824) : ∀ (d i : Nat), i + d = l.length →
    Ev (fun k => corporaref01_Units.l1 k ((l.take i).map setOK ++ l.drop i) (l.length : Int) (i : Int)) (l.map setOK) := by
  intro d
  induction d with
  | zero =>
    intro i hd
    refine Ev.step (fun k => by rw [corporaref01_Units.l1]) (ev_neg (by omega) (ev_now ?_))
    rw [List.take_of_length_le (by omega), List.drop_eq_nil_of_le (by omega), List.append_nil]
  | succ d ih =>
    intro i hd
    have hi : i < l.length := by omega
    have hx : i < ((l.take i).map setOK ++ l.drop i).length := by rw [List.length_append, List.length_map, List.length_take, List.length_drop]; omega
    have hg : ((l.take i).map setOK ++ l.drop i)[i] = l[i] := by
      have hti : ((l.take i).map setOK).length = i := by rw [List.length_map, List.length_take]; omega
      rw [List.getElem_append_right (by omega), List.getElem_drop]
      simp only [hti, Nat.sub_self, Nat.add_zero]
    have hs : ∀ u : S56, u = setOK l[i] → ((l.take i).map setOK ++ l.drop i).set i u = (l.take (i + 1)).map setOK ++ l.drop (i + 1) := fun u hu => by
      have hti : ((l.take i).map setOK).length = i := by rw [List.length_map, List.length_take]; omega
      rw [List.set_append_right _ _ (by omega), hti, Nat.sub_self, List.drop_eq_getElem_cons hi, List.set_cons_zero, List.take_add_one, List.getElem?_eq_getElem hi, List.map_append, hu]
      simp
    refine Ev.step (fun k => by rw [corporaref01_Units.l1]) (ev_pos (by omega) (ev_pos (by omega) (ev_pos (by omega) ?_)))
    rw [rdT _ i hx, hg, wrap_up i (by omega), Int.toNat_natCast]
    by_cases h : l[i].f0 = 65533
    · refine ev_pos h ?_
      rw [hs _ (by unfold setOK okS; rw [if_pos h])]
      exact ih (i + 1) (by omega)
    · refine ev_neg h ?_
      rw [hs _ (by unfold setOK okS; rw [if_neg h])]
      exact ih (i + 1) (by omega)
theorem units_j1 (l : List S56) (hl : l.length ≤ 1073741824) : Ev (fun k => corporaref01_Units.j1 k l) (l.map setOK) := by
  refine Ev.step (fun k => by rw [corporaref01_Units.j1]) ?_
  have := units_l1 l hl l.length 0 (by omega)
  simpa using this
theorem set_last (l : List S56) (a b : S56) : (l ++ [a]).set l.length b = l ++ [b] := by
  rw [List.set_append_right _ _ (Nat.le_refl _), Nat.sub_self]; rfl
theorem rd_last (l : List S56) (a : S56) : rd_T56 (l ++ [a]) ((l.length : Nat) : Int) = a := by
  rw [rdT _ _ (by simp)]; simp
theorem units_l0 (s : ByteArray) (hsz : s.size ≤ 120) {pos : Nat} {m : List S56} (h : UL s pos m) : ∀ (p : Nat) (done : List S56), p < s.size → pos = p + (Utf8.decode s p).2 → done.length ≤ p →
    Ev (fun k => corporaref01_Units.l0 k s (done ++ [uOpen s p]) (pos : Int) (s.size : Int)) ((done ++ uAt s p :: m).map setOK) := by
  induction h with
  | nil hp =>
    intro p done hps hpos hd
    rename_i pos
    have hw := width_le s p hps
    refine Ev.step (fun k => by rw [corporaref01_Units.l0]) (ev_neg (by omega) ?_)
    have hlen : (done ++ [uOpen s p]).length = done.length + 1 := by simp
    rw [hlen, wrap_dn (done.length + 1) (by omega) (by omega), Nat.add_sub_cancel]
    refine ev_pos (by omega) (ev_pos (by omega) (ev_pos (by omega) ?_))
    rw [rd_last, Int.toNat_natCast, set_last]
    have e : wrap64 ((s.size : Int) - (uOpen s p).f1) = ((Utf8.decode s p).2 : Int) := by
      show wrap64 ((s.size : Int) - (p : Int)) = _
      unfold wrap64; omega
    rw [e]
    exact units_j1 (done ++ [uAt s p]) (by simp; omega)
  | cons hp hm ih =>
    intro p done hps hpos hd
    rename_i pos m
    have hw := width_le s p hps
    have hw1 := width_pos s p
    have hw2 := width_le s pos hp
    refine Ev.step (fun k => by rw [corporaref01_Units.l0]) (ev_pos (by omega) ?_)
    have hlen : (done ++ [uOpen s p]).length = done.length + 1 := by simp
    rw [hlen, wrap_dn (done.length + 1) (by omega) (by omega), Nat.add_sub_cancel]
    refine ev_pos (by omega) (ev_pos (by omega) (ev_pos (by omega) ?_))
    rw [rd_last, Int.toNat_natCast, set_last]
    have e : wrap64 ((pos : Int) - (uOpen s p).f1) = ((Utf8.decode s p).2 : Int) := by
      show wrap64 ((pos : Int) - (p : Int)) = _
      unfold wrap64; omega
    rw [e]
    refine ev_some (ev_pos ?_ ?_)
    · simp; omega
    have e2 : (pos : Int) + wd_ s (pos : Int) = ((pos + (Utf8.decode s pos).2 : Nat) : Int) := by unfold wd_; rw [Int.toNat_natCast]; omega
    have e3 : rn_ s (pos : Int) = ((Utf8.decode s pos).1 : Int) := by unfold rn_; rw [Int.toNat_natCast]
    rw [e2, e3]
    refine ev_eq (ih pos (done ++ [uAt s p]) hp rfl (by rw [List.length_append, List.length_singleton]; omega)) ?_
    simp
theorem units_ev (s : ByteArray) (hsz : s.size ≤ 120) {m : List S56} (h : UL s 0 m) : Ev (fun k => corporaref01_Units.f k s) (m.map setOK) := by
  unfold corporaref01_Units.f
  refine Ev.step (fun k => by rw [corporaref01_Units.l0]) ?_
  cases h with
  | nil hp =>
    refine ev_neg (by omega) (ev_neg (by simp) ?_)
    exact units_j1 [] (by simp)
  | cons hp hm =>
    refine ev_pos (by omega) (ev_neg (by simp) (ev_pos (by simp) ?_))
    have e2 : (0 : Int) + wd_ s 0 = ((0 + (Utf8.decode s 0).2 : Nat) : Int) := by unfold wd_; simp
    have e3 : rn_ s 0 = ((Utf8.decode s 0).1 : Int) := rfl
    rw [e2, e3]
    exact units_l0 s hsz hm 0 [] hp rfl (by simp)
theorem refValid_l0 (l : List S56) (hl : l.length ≤ 1073741824) : ∀ (d i : Nat), i + d = l.length → Ev (fun k => corporaref01_Valid.l0 k l (l.length : Int) (i : Int)) ((l.drop i).all (fun u => u.f3)) := by
  intro d
  induction d with
  | zero =>
    intro i hd
    refine Ev.step (fun k => by rw [corporaref01_Valid.l0]) (ev_neg (by omega) (ev_now ?_))
    rw [List.drop_eq_nil_of_le (by omega)]; rfl
  | succ d ih =>
    intro i hd
    have hi : i < l.length := by omega
    have hdr : l.drop i = l[i] :: l.drop (i + 1) := List.drop_eq_getElem_cons hi
    refine Ev.step (fun k => by rw [corporaref01_Valid.l0]) (ev_pos (by omega) (ev_pos (by omega) (ev_pos (by omega) ?_)))
    rw [rdT _ i hi, wrap_up i (by omega)]
    cases hf : l[i].f3 with
    | true =>
      refine ev_pos rfl (ev_eq (ih (i + 1) (by omega)) ?_)
      rw [hdr, List.all_cons, hf, Bool.true_and]
    | false =>
      refine ev_neg (by simp) (ev_now ?_)
      rw [hdr, List.all_cons, hf, Bool.false_and]
theorem refValid_ev (s : ByteArray) (hsz : s.size ≤ 120) : Ev (fun k => corporaref01_Valid.f k s) (validD s.data.toList) := by
  unfold corporaref01_Valid.f
  obtain ⟨m, hm⟩ := UL.exists s s.size 0 (by omega)
  refine Ev.bind (units_ev s hsz hm) ?_
  have hlen := hm.len (Nat.zero_le _)
  refine ev_eq (refValid_l0 (m.map setOK) (by rw [List.length_map]; omega) (m.map setOK).length 0 (by omega)) ?_
  rw [List.drop_zero, List.all_map]
  have := hm.ok
  rw [List.drop_zero] at this
  rw [← this]
  rfl
end Go.Proofs.Ytcgglamgemgeiaa.Q
/- Conv -/
namespace Go.Proofs.Ytcgglamgemgeiaa.Q
open Go.RowKit Go.Proofs.YtcgglamgemgeiaaW.PrintWords Go.Proofs.YtcgglamgemgeiaaW.PrintLast
section
variable {P : Program} {ops : Array Oper} {Q : Exit → Act → World → Prop} {o : Oper} {rest : List Oper} {a : Act}
theorem C_bytes (W : World) (e : TypeId) (s : ByteArray) (hm : s.size ≤ 9223372036854775807) : Kd.C (Kd.int .u8) (Lib.bytesWorld W e s) (some ⟨W.heap.size, 0, none⟩) (bytesOf s).length (bytesOf s) := by
  refine Kd.C_of_reads (d := (0 : Int)) (h1 := fun _ => rfl) ?_
  refine ⟨rfl, by rw [bytesOf_length]; exact hm, fun hp => ⟨_, rfl, fun j hj => ?_⟩⟩
  have hj' : j < s.size := by rw [bytesOf_length] at hj; exact hj
  have h := Lib.bytesWorld_cell W e s j hj'
  have e2 : (bytesOf s).getD j 0 = ((s.data.toList.getD j 0).toNat : Int) := by
    unfold bytesOf
    have : j < s.data.toList.length := by rw [data_length]; exact hj'
    simp [List.getD_eq_getElem?_getD, List.getElem?_map, List.getElem?_eq_getElem this]
  have ea : (⟨W.heap.size, 0, none⟩ : Addr).add j = ⟨W.heap.size, j, none⟩ := by
    by_cases h0 : j = 0 <;> simp [Addr.add, h0]
  rw [ea, e2]; exact h
theorem below_bytes (W : World) (e : TypeId) (s : ByteArray) : Below W.heap.size W (Lib.bytesWorld W e s) := by
  refine ⟨by simp [Lib.bytesWorld, World.freeze, World.alloc, World.drew, -World.alloc_eq, -World.drew_eq], by simp [Lib.bytesWorld, World.freeze, World.alloc, World.drew, -World.alloc_eq, -World.drew_eq], by simp [Lib.bytesWorld, World.freeze, World.alloc, World.drew, -World.alloc_eq, -World.drew_eq], by rw [Lib.bytesWorld_size]; omega, fun k hk => Lib.bytesWorld_at_old W e s k hk⟩
theorem R_conv {w0 W : World} (base e : Nat) (hgd : o.guard = none) (src dst : TypeId) (x : Operand) (ho : o.op = .convert src dst x) (s : ByteArray) (hx : a.eval x = .string s) {u : TypeDesc}
    (hs : P.underlying src = some u) (hd : P.underlying dst = some (.slice e)) (he : P.underlying e = some (.int .u8)) (HB : Below base w0 W) (hbase : base ≤ W.heap.size) (hm : s.size ≤ 9223372036854775807)
    (h : ∀ A c w1, Kd.C (Kd.int .u8) w1 A (bytesOf s).length (bytesOf s) → (bytesOf s).length ≤ c → Below base w0 w1 → Below W.heap.size W w1 → wpList P ops Q rest (a.put o.dst (.slice A (bytesOf s).length c)) w1) : wpList P ops Q (o :: rest) a W := by
  have hb := below_bytes W e s
  refine Kd.event_run (w1 := Lib.bytesWorld W e s) (v := .slice (some ⟨W.heap.size, 0, none⟩) s.size (grownCap W s.size 0 e)) hgd ?_ ?_
  · have hr := Lib.run_convert_string_bytes (P := P) W src dst e s hs hd he
    unfold execOp
    simp only [ho, hx]
    simp [hr]
  · have := h (some ⟨W.heap.size, 0, none⟩) (grownCap W s.size 0 e) (Lib.bytesWorld W e s) (C_bytes W e s hm) (by rw [bytesOf_length]; exact grownCap_ge ..) (HB.trans (hb.mono hbase)) hb
    rwa [bytesOf_length] at this
end
end Go.Proofs.Ytcgglamgemgeiaa.Q
/- Leq -/
namespace Go.Proofs.Ytcgglamgemgeiaa.Q
theorem leq_bytes : ∀ x y : List UInt8, (Op.bytesLess x y || x == y) = !(Op.bytesLess y x)
  | [], [] => rfl
  | [], _ :: _ => rfl
  | _ :: _, [] => rfl
  | a :: x, b :: y => by
    have ih := leq_bytes x y
    simp only [Op.bytesLess]
    rcases Nat.lt_trichotomy a.toNat b.toNat with h | h | h
    · have h1 : a < b := UInt8.lt_iff_toNat_lt.2 h
      have h2 : ¬ b < a := fun h3 => by have := UInt8.lt_iff_toNat_lt.1 h3; omega
      have h3 : (b == a) = false := by
        rw [beq_eq_false_iff_ne]; intro e; subst e; omega
      simp [h1, h2, h3]
    · obtain rfl : a = b := UInt8.toNat_inj.1 h
      have h1 : ¬ a < a := fun h3 => by have := UInt8.lt_iff_toNat_lt.1 h3; omega
      have e : ((a :: x) == (a :: y)) = (x == y) := by simp
      rw [e]; simp [h1, ih]
    · have h1 : b < a := UInt8.lt_iff_toNat_lt.2 h
      have h2 : ¬ a < b := fun h3 => by have := UInt8.lt_iff_toNat_lt.1 h3; omega
      have h3 : (a == b) = false := by
        rw [beq_eq_false_iff_ne]; intro e; subst e; omega
      have h4 : ((a :: x) == (b :: y)) = false := by
        rw [beq_eq_false_iff_ne]; intro e; injection e with e1 _; subst e1; omega
      simp [h1, h2, h3, h4]
end Go.Proofs.Ytcgglamgemgeiaa.Q
/- FSpec -/
namespace Go.Proofs.Ytcgglamgemgeiaa.Q
open Go.Lib
def bl (s : ByteArray) : List UInt8 := s.data.toList
theorem bl_inj {a b : ByteArray} (h : bl a = bl b) : a = b := by
  cases a with | mk a => cases b with | mk b => cases a with | mk a => cases b with | mk b => simp [bl] at h; rw [h]
theorem toList_bl (s : ByteArray) : s.toList = bl s := toList_data s
theorem toList_eq_iff {a b : ByteArray} : a.toList = b.toList ↔ a = b := ⟨fun h => bl_inj (by rw [← toList_bl, ← toList_bl, h]), fun h => by rw [h]⟩
theorem bl_append (a b : ByteArray) : bl (a ++ b) = bl a ++ bl b := by simp [bl]
theorem bl_length (s : ByteArray) : (bl s).length = s.size := by rw [size_eq]; rfl
/-- The order of strings. -/
def lt (a b : ByteArray) : Bool := Op.bytesLess (bl a) (bl b)
theorem lt_eq (a b : ByteArray) : Op.bytesLess a.toList b.toList = lt a b := by rw [toList_bl, toList_bl]; rfl
theorem less_leq (x y : List UInt8) : (Op.bytesLess x y || x == y) = !(Op.bytesLess y x) := leq_bytes x y
theorem less_irrefl (x : List UInt8) : Op.bytesLess x x = false := by
  have h := leq_bytes x x
  cases hh : Op.bytesLess x x with
  | false => rfl
  | true => rw [hh] at h; simp at h
theorem less_asymm {x y : List UInt8} (h : Op.bytesLess x y = true) : Op.bytesLess y x = false := by
  have h2 := leq_bytes x y
  rw [h] at h2
  cases hh : Op.bytesLess y x with
  | false => rfl
  | true => rw [hh] at h2; simp at h2
theorem less_tri {x y : List UInt8} (h : Op.bytesLess x y = false) (h' : Op.bytesLess y x = false) : x = y := by
  have h2 := leq_bytes x y
  rw [h, h'] at h2
  simpa using h2
theorem less_trans : ∀ {x y z : List UInt8}, Op.bytesLess x y = true → Op.bytesLess y z = true → Op.bytesLess x z = true
  | _, [], _, h, _ => by simp [Op.bytesLess] at h
  | _, _ :: _, [], _, h => by simp [Op.bytesLess] at h
  | [], _ :: _, _ :: _, _, _ => rfl
  | a :: x, b :: y, c :: z, h, h' => by
    simp only [Op.bytesLess, Bool.or_eq_true, Bool.and_eq_true, decide_eq_true_eq, beq_iff_eq] at h h' ⊢
    rcases h with h | ⟨rfl, h⟩ <;> rcases h' with h' | ⟨rfl, h'⟩
    · exact .inl (UInt8.lt_iff_toNat_lt.2 (by have h1 := UInt8.lt_iff_toNat_lt.1 h; have h2 := UInt8.lt_iff_toNat_lt.1 h'; omega))
    · exact .inl h
    · exact .inl h'
    · exact .inr ⟨rfl, less_trans h h'⟩
theorem lt_irrefl (a : ByteArray) : lt a a = false := less_irrefl _
theorem lt_asymm {a b : ByteArray} (h : lt a b = true) : lt b a = false := less_asymm h
theorem lt_trans {a b c : ByteArray} (h : lt a b = true) (k : lt b c = true) : lt a c = true := less_trans h k
theorem lt_tri {a b : ByteArray} (h : lt a b = false) (k : lt b a = false) : a = b := bl_inj (less_tri h k)
theorem lt_ne {a b : ByteArray} (h : lt a b = true) : a ≠ b := fun e => by subst e; rw [lt_irrefl] at h; cases h
/-- Strictly ascending. -/
abbrev SS (l : List ByteArray) : Prop := l.Pairwise (fun a b => lt a b = true)
def srt : List ByteArray → Bool
  | [] => true
  | [_] => true
  | a :: b :: l => lt a b && srt (b :: l)
theorem srt_ss : ∀ {l : List ByteArray}, srt l = true → SS l
  | [], _ => List.Pairwise.nil
  | [_], _ => List.pairwise_singleton _ _
  | a :: b :: l, h => by
    rw [srt, Bool.and_eq_true] at h
    have ih := srt_ss h.2
    refine List.Pairwise.cons (fun x hx => ?_) ih
    rcases List.mem_cons.1 hx with rfl | hx
    · exact h.1
    · exact lt_trans h.1 ((List.pairwise_cons.1 ih).1 x hx)
theorem ss_srt : ∀ {l : List ByteArray}, SS l → srt l = true
  | [], _ => rfl
  | [_], _ => rfl
  | a :: b :: l, h => by
    rw [srt, Bool.and_eq_true]
    exact ⟨(List.pairwise_cons.1 h).1 b (by simp), ss_srt (List.pairwise_cons.1 h).2⟩
theorem ss_ext : ∀ {l m : List ByteArray}, SS l → SS m → (∀ x, x ∈ l ↔ x ∈ m) → l = m
  | [], [], _, _, _ => rfl
  | [], b :: m, _, _, h => by have := (h b).2 (by simp); simp at this
  | a :: l, [], _, _, h => by have := (h a).1 (by simp); simp at this
  | a :: l, b :: m, hl, hm, h => by
    have hl' := List.pairwise_cons.1 hl
    have hm' := List.pairwise_cons.1 hm
    have e : a = b := by
      rcases List.mem_cons.1 ((h a).1 (by simp)) with e | ha
      · exact e
      · rcases List.mem_cons.1 ((h b).2 (by simp)) with e | hb
        · exact e.symm
        · have h1 := hm'.1 a ha
          have h2 := hl'.1 b hb
          rw [lt_asymm h1] at h2; cases h2
    subst e
    have : l = m := ss_ext hl'.2 hm'.2 (fun x => by
      constructor
      · intro hx
        rcases List.mem_cons.1 ((h x).1 (List.mem_cons_of_mem _ hx)) with e | hx'
        · exact absurd e.symm (lt_ne (hl'.1 x hx))
        · exact hx'
      · intro hx
        rcases List.mem_cons.1 ((h x).2 (List.mem_cons_of_mem _ hx)) with e | hx'
        · exact absurd e.symm (lt_ne (hm'.1 x hx))
        · exact hx')
    rw [this]
/-- A list with one more string, put ahead of the first that is not smaller; a string that is there already is not put in again. -/
def insB : List ByteArray → ByteArray → List ByteArray
  | [], f => [f]
  | x :: l, f => if lt x f = true then x :: insB l f else if x = f then x :: l else f :: x :: l
theorem mem_insB {l : List ByteArray} {f x : ByteArray} : x ∈ insB l f ↔ x ∈ l ∨ x = f := by
  induction l with
  | nil => simp [insB]
  | cons a l ih =>
    rw [insB]
    by_cases h1 : lt a f = true
    · rw [if_pos h1, List.mem_cons, ih, List.mem_cons, or_assoc]
    · rw [if_neg h1]
      by_cases h2 : a = f
      · rw [if_pos h2, List.mem_cons]
        subst h2
        constructor
        · exact .inl
        · rintro (h | h)
          · exact h
          · exact .inl h
      · rw [if_neg h2, List.mem_cons, List.mem_cons, or_comm]
theorem ss_insB {l : List ByteArray} {f : ByteArray} (h : SS l) : SS (insB l f) := by
  induction l with
  | nil => exact List.pairwise_singleton _ _
  | cons a l ih =>
    have h' := List.pairwise_cons.1 h
    rw [insB]
    by_cases h1 : lt a f = true
    · rw [if_pos h1]
      refine List.Pairwise.cons (fun x hx => ?_) (ih h'.2)
      rcases mem_insB.1 hx with hx | rfl
      · exact h'.1 x hx
      · exact h1
    · rw [if_neg h1]
      by_cases h2 : a = f
      · rw [if_pos h2]; exact h
      · rw [if_neg h2]
        have h3 : lt f a = true := by
          cases hh : lt f a with
          | true => rfl
          | false => exact absurd (lt_tri (by simpa using h1) hh) h2
        refine List.Pairwise.cons (fun x hx => ?_) h
        rcases List.mem_cons.1 hx with rfl | hx
        · exact h3
        · exact lt_trans h3 (h'.1 x hx)
theorem insB_length (l : List ByteArray) (f : ByteArray) : (insB l f).length ≤ l.length + 1 := by
  induction l with
  | nil => simp [insB]
  | cons a l ih =>
    rw [insB]
    split
    · simp only [List.length_cons]; omega
    · split <;> simp only [List.length_cons] <;> omega
/-- The sorted list of a list's elements. -/
def nrmF (acc : List ByteArray) (m : List ByteArray) : List ByteArray := m.foldl insB acc
def nrm (m : List ByteArray) : List ByteArray := nrmF [] m
theorem nrmF_ss : ∀ (m acc : List ByteArray), SS acc → SS (nrmF acc m)
  | [], _, h => h
  | f :: m, acc, h => nrmF_ss m (insB acc f) (ss_insB h)
theorem nrmF_mem : ∀ (m acc : List ByteArray) (x : ByteArray), x ∈ nrmF acc m ↔ x ∈ acc ∨ x ∈ m
  | [], acc, x => by simp [nrmF]
  | f :: m, acc, x => by
    show x ∈ nrmF (insB acc f) m ↔ _
    rw [nrmF_mem m, mem_insB, List.mem_cons, or_assoc]
theorem nrm_ss (m : List ByteArray) : SS (nrm m) := nrmF_ss m [] List.Pairwise.nil
theorem nrm_mem (m : List ByteArray) (x : ByteArray) : x ∈ nrm m ↔ x ∈ m := by rw [nrm, nrmF_mem]; simp
theorem nrm_of_ss {l m : List ByteArray} (h : SS l) (hm : ∀ x, x ∈ m ↔ x ∈ l) : nrm m = l := ss_ext (nrm_ss m) h (fun x => by rw [nrm_mem, hm])
theorem nrm_congr {l m : List ByteArray} (hm : ∀ x, x ∈ m ↔ x ∈ l) : nrm m = nrm l := nrm_of_ss (nrm_ss l) (fun x => by rw [hm, nrm_mem])

/-! ### texts -/
def tailT : List ByteArray → List UInt8
  | [] => []
  | f :: l => bl f ++ 124 :: tailT l
/-- The text of a list of features. -/
def text (l : List ByteArray) : ByteArray := ⟨(124 :: tailT l).toArray⟩
theorem bl_text (l : List ByteArray) : bl (text l) = 124 :: tailT l := by simp [bl, text]
/-- A feature. -/
def Feat (f : ByteArray) : Prop := vv f = 0 ∧ bl f ≠ [] ∧ (124 : UInt8) ∉ bl f
theorem vv_zero {s : ByteArray} : vv s = 0 ↔ s.size ≤ 120 ∧ validD (bl s) = true ∧ (bl s).any badB = false := by
  unfold vv bl
  by_cases h1 : 120 < s.size
  · rw [if_pos h1]; constructor
    · intro h; cases h
    · rintro ⟨h, _⟩; omega
  · rw [if_neg h1]
    cases h2 : validD s.data.toList with
    | false => simp
    | true =>
      cases h3 : s.data.toList.any badB with
      | true => simp
      | false => simp; omega
/-- The pieces between separators; none: a piece is empty. -/
def spl : List UInt8 → List UInt8 → Option (List (List UInt8))
  | [], _ => some []
  | b :: r, cur => if b = 124 then (if cur = [] then none else (spl r []).map (cur :: ·)) else spl r (cur ++ [b])
def mkB (l : List UInt8) : ByteArray := ⟨l.toArray⟩
theorem bl_mkB (l : List UInt8) : bl (mkB l) = l := by simp [bl, mkB]
theorem mkB_bl (s : ByteArray) : mkB (bl s) = s := bl_inj (bl_mkB _)
/-- What spl finds. -/
theorem spl_some : ∀ (r cur : List UInt8) (l : List (List UInt8)), (124 : UInt8) ∉ cur → (r = [] → cur = []) → (r ≠ [] → r.getLast? = some 124) → spl r cur = some l →
    cur ++ r = tailT (l.map mkB) ∧ ∀ f ∈ l, f ≠ [] ∧ (124 : UInt8) ∉ f
  | [], cur, l, _, h, _, hs => by
    rw [h rfl]
    simp only [spl] at hs
    obtain rfl := Option.some.inj hs
    exact ⟨rfl, fun f hf => by simp at hf⟩
  | b :: r, cur, l, hc, _, hl, hs => by
    rw [spl] at hs
    by_cases hb : b = 124
    · rw [if_pos hb] at hs
      by_cases hcur : cur = []
      · rw [if_pos hcur] at hs; cases hs
      · rw [if_neg hcur] at hs
        obtain ⟨l', hl', rfl⟩ := Option.map_eq_some_iff.1 hs
        have ih := spl_some r [] l' (by simp) (fun _ => rfl) (fun hr => by
          have := hl (by simp)
          rw [List.getLast?_cons_of_ne_nil hr] at this
          exact this) hl'
        subst hb
        refine ⟨?_, fun f hf => ?_⟩
        · rw [List.map_cons, tailT, bl_mkB, ← ih.1, List.nil_append]
        · rcases List.mem_cons.1 hf with rfl | hf
          · exact ⟨hcur, hc⟩
          · exact ih.2 f hf
    · rw [if_neg hb] at hs
      have hr : r ≠ [] := fun hr => by
        subst hr
        have := hl (by simp)
        simp at this
        exact hb this
      have ih := spl_some r (cur ++ [b]) l (by simp; exact ⟨hc, fun h => hb h.symm⟩) (fun h => absurd h hr) (fun hr => by
          have := hl (by simp)
          rw [List.getLast?_cons_of_ne_nil hr] at this
          exact this) hs
      refine ⟨?_, ih.2⟩
      rw [← ih.1]; simp
theorem spl_word : ∀ (f cur r : List UInt8), (124 : UInt8) ∉ f → spl (f ++ r) cur = spl r (cur ++ f)
  | [], cur, r, _ => by simp
  | b :: f, cur, r, h => by
    have hb : b ≠ 124 := fun e => h (by rw [e]; simp)
    rw [List.cons_append, spl, if_neg hb, spl_word f _ r (fun hf => h (List.mem_cons_of_mem _ hf))]
    simp
theorem spl_tail : ∀ (l : List ByteArray), (∀ f ∈ l, bl f ≠ [] ∧ (124 : UInt8) ∉ bl f) → spl (tailT l) [] = some (l.map bl)
  | [], _ => rfl
  | f :: l, h => by
    have hf := h f (by simp)
    rw [tailT, spl_word _ _ _ hf.2, List.nil_append, spl, if_pos rfl, if_neg hf.1, spl_tail l (fun g hg => h g (List.mem_cons_of_mem _ hg))]
    rfl
theorem tail_last : ∀ (l : List ByteArray), tailT l ≠ [] → (tailT l).getLast? = some 124
  | [], h => absurd rfl h
  | f :: l, _ => by
    rw [tailT]
    by_cases hl : tailT l = []
    · rw [hl]; simp
    · rw [List.getLast?_append, List.getLast?_cons_of_ne_nil hl, tail_last l hl]; rfl
/-- The answer of Parse. -/
def PR (s : ByteArray) : List ByteArray × Int :=
  if vv s ≠ 0 then ([], vv s) else if (bl s).head? ≠ some 124 ∨ (bl s).getLast? ≠ some 124 then ([], 3) else
    match spl (bl s).tail [] with
    | none => ([], 3)
    | some l => if srt (l.map mkB) = true then (l.map mkB, 0) else ([], 6)
theorem validD_tail : ∀ (l : List ByteArray), validD (tailT l) = true ↔ ∀ f ∈ l, validD (bl f) = true
  | [] => by simp [tailT, validD_nil]
  | f :: l => by
    rw [tailT, validD_cut _ 124 (by decide) _ _ (Nat.le_refl _), Bool.and_eq_true, validD_tail l]
    simp
theorem bad_tail : ∀ (l : List ByteArray), (tailT l).any badB = false ↔ ∀ f ∈ l, (bl f).any badB = false
  | [] => by simp [tailT]
  | f :: l => by
    have hb : badB 124 = false := by decide
    rw [tailT, List.any_append, List.any_cons, hb, Bool.false_or, Bool.or_eq_false_iff, bad_tail l]
    constructor
    · rintro ⟨h1, h2⟩ g hg
      rcases List.mem_cons.1 hg with rfl | hg
      · exact h1
      · exact h2 g hg
    · intro h
      exact ⟨h f (by simp), fun g hg => h g (List.mem_cons_of_mem _ hg)⟩
theorem size_text (l : List ByteArray) : (text l).size = 1 + (tailT l).length := by rw [← bl_length, bl_text, List.length_cons]; omega
theorem size_mem : ∀ (l : List ByteArray) (f : ByteArray), f ∈ l → f.size + 1 ≤ (tailT l).length
  | [], f, h => by simp at h
  | g :: l, f, h => by
    rw [tailT, List.length_append, List.length_cons, bl_length]
    rcases List.mem_cons.1 h with rfl | h
    · omega
    · have := size_mem l f h; omega
theorem len_tail : ∀ (l : List ByteArray), l.length ≤ (tailT l).length
  | [] => by simp
  | g :: l => by
    have := len_tail l
    rw [tailT, List.length_append, List.length_cons, List.length_cons]; omega
theorem validD_text (l : List ByteArray) : validD (bl (text l)) = true ↔ ∀ f ∈ l, validD (bl f) = true := by
  rw [bl_text, validD_cons 124 _ (by decide), validD_tail]
theorem bad_text (l : List ByteArray) : (bl (text l)).any badB = false ↔ ∀ f ∈ l, (bl f).any badB = false := by
  have hb : badB 124 = false := by decide
  rw [bl_text, List.any_cons, hb, Bool.false_or, bad_tail]
/-- A text of features is a value, where it is short enough. -/
theorem vv_text {l : List ByteArray} (h : ∀ f ∈ l, Feat f) (hs : (text l).size ≤ 120) : vv (text l) = 0 :=
  vv_zero.2 ⟨hs, (validD_text l).2 (fun f hf => (vv_zero.1 (h f hf).1).2.1), (bad_text l).2 (fun f hf => (vv_zero.1 (h f hf).1).2.2)⟩
/-- Where Parse finds features: the string is their text. -/
theorem PR_ok {s : ByteArray} {l : List ByteArray} (h : PR s = (l, 0)) : s = text l ∧ SS l ∧ (∀ f ∈ l, Feat f) ∧ s.size ≤ 120 := by
  unfold PR at h
  by_cases h1 : vv s ≠ 0
  · rw [if_pos h1] at h; injection h with _ h; exact absurd h h1
  · rw [if_neg h1] at h
    have h1' : vv s = 0 := by simpa using h1
    by_cases h2 : (bl s).head? ≠ some 124 ∨ (bl s).getLast? ≠ some 124
    · rw [if_pos h2] at h; injection h with _ h; cases h
    · rw [if_neg h2] at h
      have h3 : (bl s).head? = some 124 := by
        cases hh : (bl s).head? with
        | none => exact absurd (.inl (by rw [hh]; simp)) h2
        | some x => exact Classical.byContradiction (fun hx => h2 (.inl (by rw [hh]; exact hx)))
      have h4 : (bl s).getLast? = some 124 := Classical.byContradiction (fun hx => h2 (.inr hx))
      cases hb : bl s with
      | nil => rw [hb] at h3; cases h3
      | cons b r =>
        rw [hb] at h h3 h4
        simp at h3
        subst h3
        simp only [List.tail_cons] at h
        cases hsp : spl r [] with
        | none => rw [hsp] at h; simp at h
        | some m =>
          rw [hsp] at h
          simp only at h
          have key := spl_some r [] m (by simp) (fun _ => rfl) (fun hr => by rw [List.getLast?_cons_of_ne_nil hr] at h4; exact h4) hsp
          by_cases h5 : srt (m.map mkB) = true
          · rw [if_pos h5] at h
            injection h with h6 _
            subst h6
            have e : s = text (m.map mkB) := bl_inj (by rw [hb, bl_text, ← key.1]; rfl)
            have hz := vv_zero.1 h1'
            refine ⟨e, srt_ss h5, fun f hf => ?_, hz.1⟩
            have hz2 := hz
            rw [e] at hz2
            have v1 := (validD_text _).1 hz2.2.1 f hf
            have v2 := (bad_text _).1 hz2.2.2 f hf
            obtain ⟨g, hg, rfl⟩ := List.mem_map.1 hf
            have hsz := size_mem _ _ hf
            have := size_text (m.map mkB)
            refine ⟨vv_zero.2 ⟨by have := hz2.1; omega, v1, v2⟩, by rw [bl_mkB]; exact (key.2 g hg).1, by rw [bl_mkB]; exact (key.2 g hg).2⟩
          · rw [if_neg h5] at h; injection h with _ h; cases h
/-- Parse finds the features of a text again. -/
theorem PR_text {l : List ByteArray} (hs : SS l) (h : ∀ f ∈ l, Feat f) (hz : (text l).size ≤ 120) : PR (text l) = (l, 0) := by
  unfold PR
  rw [if_neg (by rw [vv_text h hz]; simp), bl_text]
  have hlast : (124 :: tailT l).getLast? = some 124 := by
    by_cases hl : tailT l = []
    · rw [hl]; rfl
    · rw [List.getLast?_cons_of_ne_nil hl]; exact tail_last l hl
  rw [if_neg (by rw [hlast]; simp)]
  have e : (l.map bl).map mkB = l := by
    rw [List.map_map]
    conv => rhs; rw [← List.map_id l]
    exact List.map_congr_left (fun x _ => mkB_bl x)
  simp only [List.tail_cons]
  rw [spl_tail l (fun f hf => ⟨(h f hf).2.1, (h f hf).2.2⟩)]
  simp only
  rw [e, if_pos (ss_srt hs)]
/-- Whether Parse finds features is told by its error alone. -/
theorem PR_eta {s : ByteArray} (h : (PR s).2 = 0) : PR s = ((PR s).1, 0) := by rw [← h]
theorem PR_err {s : ByteArray} (h : (PR s).2 ≠ 0) : (PR s).1 = [] := by
  unfold PR at h ⊢
  split
  · rfl
  · split
    · rfl
    · rename_i h1 h2
      rw [if_neg h1, if_neg h2] at h
      split
      · rfl
      · split
        · rename_i hh hs
          simp only [hh, hs, if_true] at h
          exact absurd rfl h
        · rfl
/-! ### Format -/
def fmGo : List ByteArray → List ByteArray → List ByteArray × Int
  | [], acc => (acc, 0)
  | f :: r, acc => if vv f ≠ 0 then ([], vv f) else if bl f = [] ∨ (124 : UInt8) ∈ bl f then ([], 3) else fmGo r (insB acc f)
/-- The answer of Format. -/
def FM (m : List ByteArray) : ByteArray × Int := if (fmGo m []).2 ≠ 0 then (⟨#[]⟩, (fmGo m []).2) else if 120 < (text (fmGo m []).1).size then (⟨#[]⟩, 2) else (text (fmGo m []).1, 0)
theorem fmGo_feat : ∀ (m acc : List ByteArray), (∀ f ∈ m, Feat f) → fmGo m acc = (nrmF acc m, 0)
  | [], _, _ => rfl
  | f :: m, acc, h => by
    have hf := h f (by simp)
    rw [fmGo, if_neg (by rw [hf.1]; simp), if_neg (by rintro (h1 | h1); exact hf.2.1 h1; exact hf.2.2 h1), fmGo_feat m _ (fun g hg => h g (List.mem_cons_of_mem _ hg))]
    rfl
/-- Format of features. -/
theorem FM_feat {m : List ByteArray} (h : ∀ f ∈ m, Feat f) : FM m = if 120 < (text (nrm m)).size then (⟨#[]⟩, 2) else (text (nrm m), 0) := by
  unfold FM
  rw [fmGo_feat m [] h, if_neg (by simp)]
  rfl
/-! ### the operations -/
def memb (l : List ByteArray) (f : ByteArray) : Bool := l.any (fun x => decide (x = f))
theorem memb_iff {l : List ByteArray} {f : ByteArray} : memb l f = true ↔ f ∈ l := by
  unfold memb
  rw [List.any_eq_true]
  constructor
  · rintro ⟨x, hx, h⟩
    rw [← of_decide_eq_true h]; exact hx
  · exact fun h => ⟨f, h, decide_eq_true rfl⟩
def UN (a b : ByteArray) : ByteArray × Int := if (PR a).2 ≠ 0 then (⟨#[]⟩, (PR a).2) else if (PR b).2 ≠ 0 then (⟨#[]⟩, (PR b).2) else FM ((PR a).1 ++ (PR b).1)
def IS (a b : ByteArray) : ByteArray × Int := if (PR a).2 ≠ 0 then (⟨#[]⟩, (PR a).2) else if (PR b).2 ≠ 0 then (⟨#[]⟩, (PR b).2) else (text ((PR a).1.filter (memb (PR b).1)), 0)
def SB (a b : ByteArray) : Bool × Int := if (PR a).2 ≠ 0 then (false, (PR a).2) else if (PR b).2 ≠ 0 then (false, (PR b).2) else ((PR a).1.all (memb (PR b).1), 0)
def HS (s f : ByteArray) : Bool := decide ((PR s).2 = 0) && memb (PR s).1 f
end Go.Proofs.Ytcgglamgemgeiaa.Q
/- RefValue -/
namespace Go.Proofs.Ytcgglamgemgeiaa.Q
open Go.RowKit Go.Lib Go.Proofs.YtcgglamgemgeiaaW.PrintWords Go.Proofs.YtcgglamgemgeiaaW.PrintLast
theorem rd_bytes {s : ByteArray} {i : Nat} (h : i < (bl s).length) : rd (bytesOf s) (i : Int) = ((bl s)[i].toNat : Int) := by
  have h' : i < s.size := by rw [← bl_length]; exact h
  rw [rd_bytesOf]
  unfold bt
  rw [dif_pos (by rw [Int.toNat_natCast]; exact h')]
  rfl
set_option maxRecDepth 100000 in
set_option maxHeartbeats 4000000 in
theorem refValue_calls (s : ByteArray) (w : World) :
    Calls Try.prog 27 #[.string s] w fun e w' => e = .returned (.int .i64 (vv s)) ∧ Below w.heap.size w w' := by
  have HB := Below.refl w.heap.size w
  by_cases h1 : 120 < s.size
  · have h1b : decide ((120 : Int) < (s.size : Int)) = true := decide_eq_true (by omega)
    have hv : vv s = 2 := by unfold vv; rw [if_pos h1]
    go_enter Try.func27, Try.ntmps27
    go_wp2
    go_ret
    exact ⟨by rw [hv]; rfl, HB⟩
  · have h1b : decide ((120 : Int) < (s.size : Int)) = false := decide_eq_false (by omega)
    have hs : s.size ≤ 9223372036854775807 := by omega
    obtain ⟨k, hf⟩ := (refValid_ev s (by omega)).rounds
    cases hvd : validD s.data.toList with
    | false =>
      have hv : vv s = 7 := by unfold vv; rw [if_neg h1, if_pos hvd]
      rw [hvd] at hf
      go_enter Try.func27, Try.ntmps27
      go_wp2_with (go_at_call 37; refine (corporaref01_Valid.calls _ _ _ _ hf).mono ?_; rintro e w' ⟨rfl, hb⟩)
      go_ret
      exact ⟨by rw [hv]; rfl, hb⟩
    | true =>
      have hv : vv s = if s.data.toList.any badB = true then 14 else 0 := by unfold vv; rw [if_neg h1, if_neg (by simp [hvd])]
      rw [hvd] at hf
      go_enter Try.func27, Try.ntmps27
      go_wp2_with (first | (go_at_call 37; refine (corporaref01_Valid.calls _ _ _ _ hf).mono ?_; rintro e w1 ⟨rfl, hb⟩) | (refine R_conv (w0 := w) w.heap.size 5 ?hg 9 42 (.tmp 11) rfl s ?hx Try.underlying9 Try.underlying42 Try.underlying5 ?hB ?hS ?hM ?_; (case hg => rfl); (case hx => rfl); (case hB => exact hb); (case hS => exact hb.size); (case hM => exact hs); intro A14_ c14_ w2 hC_ hl_ hb0_ hb2_))
      have hlen := bytesOf_length s
      go_loopw [4, 14] (fun (_ v14 : Value) wr => ∃ i : Nat, v14 = .int .i64 (i : Int) ∧ wr = w2 ∧ s.data.toList.any badB = (s.data.toList.drop i).any badB) (fun _ v14 _ => s.size - ixOf v14)
      case atStart => exact ⟨0, rfl, rfl, rfl⟩
      case round =>
        obtain ⟨i, rfl, rfl, hbad⟩ := hrel
        by_cases hi : i < s.size
        · have hi' : i < (bl s).length := by rw [bl_length]; exact hi
          have hc1 : decide ((i : Int) < ((bytesOf s).length : Int)) = true := decide_eq_true (by omega)
          have p0 : (0 : Int) ≤ (i : Int) := by omega
          have q0 : (i : Int) < ((bytesOf s).length : Int) := by omega
          obtain ⟨ad, rfl, hx0⟩ := Kd.at_int hC_ (i : Int) p0 q0
          rw [rd_bytes hi', Int.toNat_natCast] at hx0
          have hdr : s.data.toList.drop i = (bl s)[i] :: s.data.toList.drop (i + 1) := List.drop_eq_getElem_cons hi'
          rw [hdr, List.any_cons] at hbad
          obtain ⟨b, hb8⟩ : ∃ b, (bl s)[i] = b := ⟨_, rfl⟩
          rw [hb8] at hx0 hbad
          clear hdr hb8
          have hblt := b.toNat_lt
          have hw : wrap64 ((i : Int) + 1) = ((i + 1 : Nat) : Int) := wrap_up i (by omega)
          by_cases k1 : b.toNat < 32
          · have k1b : decide ((b.toNat : Int) < 32) = true := decide_eq_true (by omega)
            have hv14 : vv s = 14 := by rw [hv, hbad]; simp [badB]; omega
            go_wp2
            go_ret
            exact ⟨by rw [hv14]; rfl, hb0_⟩
          · have k1b : decide ((b.toNat : Int) < 32) = false := decide_eq_false (by omega)
            by_cases k2 : b.toNat = 127
            · have k2b : ((b.toNat : Int) == 127) = true := beq_iff_eq.2 (by omega)
              have hv14 : vv s = 14 := by rw [hv, hbad]; simp [badB, k2]
              go_wp2
              go_ret
              exact ⟨by rw [hv14]; rfl, hb0_⟩
            · have k2b : ((b.toNat : Int) == 127) = false := beq_eq_false_iff_ne.2 (by omega)
              have hbb : badB b = false := by unfold badB; simp; omega
              rw [hbb, Bool.false_or] at hbad
              clear hv
              go_wp2
              go_roundw
              case rel => exact ⟨i + 1, by simp, by simp, hbad⟩
              case measure => simp [ixOf]; omega
        · have hc1 : decide ((i : Int) < ((bytesOf s).length : Int)) = false := decide_eq_false (by omega)
          have hv0 : vv s = 0 := by rw [hv, hbad, drop_end s i hi]; rfl
          go_wp2
          go_ret
          exact ⟨by rw [hv0]; rfl, hb0_⟩
end Go.Proofs.Ytcgglamgemgeiaa.Q
/- FCorporaref04ValidValue -/
namespace Go.Proofs.Ytcgglamgemgeiaa.Q
open Go.RowKit Go.Proofs.YtcgglamgemgeiaaW.PrintWords Go.Proofs.YtcgglamgemgeiaaW.PrintLast Go.Proofs.YtcgglamgemgeiaaW.PrintMore
attribute [local go_sem] max2_int min2_int max_two min_two max_three min_three max_four min_four   -- for this text's walks alone
set_option linter.unusedVariables false
set_option linter.unusedSimpArgs false

/-! ### corporaref04_ValidValue: function 27 -/
def corporaref04_ValidValue.f (a0 : ByteArray) : Option (Int) := some (vv a0)
theorem corporaref04_ValidValue.calls (a0 : ByteArray) (r : Int) (w : World) (h : corporaref04_ValidValue.f a0 = some r) :
    Calls Try.prog 27 #[.string a0] w fun e w' => e = .returned (.int .i64 r) ∧ Below w.heap.size w w' := by
  obtain rfl := Option.some.inj h
  exact refValue_calls a0 w

end Go.Proofs.Ytcgglamgemgeiaa.Q
/- FCorporaref05Parse -/
namespace Go.Proofs.Ytcgglamgemgeiaa.Q
open Go.RowKit Go.Proofs.YtcgglamgemgeiaaW.PrintWords Go.Proofs.YtcgglamgemgeiaaW.PrintLast Go.Proofs.YtcgglamgemgeiaaW.PrintMore
attribute [local go_sem] max2_int min2_int max_two min_two max_three min_three max_four min_four   -- for this text's walks alone
set_option linter.unusedVariables false
set_option linter.unusedSimpArgs false

/-! ### corporaref05_Parse: function 13 -/
mutual
def corporaref05_Parse.j0 : Nat → ByteArray → Int → Bool → Option (List ByteArray × Int)
  | 0, _, _, _ => none
  | k + 1, x0, x5, x30 => if x30 = true then (some (([] : List ByteArray), 3)) else (corporaref05_Parse.l0 k x0 x5 ([] : List ByteArray) 1 1)
def corporaref05_Parse.l0 : Nat → ByteArray → Int → List ByteArray → Int → Int → Option (List ByteArray × Int)
  | 0, _, _, _, _, _ => none
  | k + 1, x0, x5, x6, x7, x8 => if x8 < x5 then (if 0 ≤ x8 then (if x8 < (x0.size : Int) then (if (bt x0 x8) = 124 then (if x8 = x7 then (some (([] : List ByteArray), 3)) else (if 0 ≤ x7 then (if x7 ≤ x8 then (if x8 ≤ (x0.size : Int) then (if x6.length < 8796093022208 then (corporaref05_Parse.l0 k x0 x5 (x6 ++ [x0.extract (x7 : Int).toNat (x8 : Int).toNat]) (wrap64 (x8 + 1)) (wrap64 (x8 + 1))) else (none)) else (none)) else (none)) else (none))) else (corporaref05_Parse.l0 k x0 x5 x6 x7 (wrap64 (x8 + 1)))) else (none)) else (none)) else (corporaref05_Parse.l1 k x6 1)
def corporaref05_Parse.l1 : Nat → List ByteArray → Int → Option (List ByteArray × Int)
  | 0, _, _ => none
  | k + 1, x6, x9 => if x9 < (x6.length : Int) then (if 0 ≤ (wrap64 (x9 - 1)) then (if (wrap64 (x9 - 1)) < (x6.length : Int) then (if 0 ≤ x9 then (if ((Op.bytesLess ((rdOf ByteArray.empty x6 (wrap64 (x9 - 1))).toList) ((rdOf ByteArray.empty x6 x9).toList)) = true) then (corporaref05_Parse.l1 k x6 (wrap64 (x9 + 1))) else (some (([] : List ByteArray), 6))) else (none)) else (none)) else (none)) else (some (x6, 0))
end
def corporaref05_Parse.f (k : Nat) (a0 : ByteArray) : Option (List ByteArray × Int) := (corporaref04_ValidValue.f a0).bind fun t121 => (if t121 = 0 then (if (a0.size : Int) = 0 then (corporaref05_Parse.j0 k a0 (a0.size : Int) true) else (if 0 < (a0.size : Int) then (if (bt a0 0) = 124 then (if 0 ≤ (wrap64 ((a0.size : Int) - 1)) then (if (wrap64 ((a0.size : Int) - 1)) < (a0.size : Int) then (corporaref05_Parse.j0 k a0 (a0.size : Int) ((bt a0 (wrap64 ((a0.size : Int) - 1))) != 124)) else (none)) else (none)) else (corporaref05_Parse.j0 k a0 (a0.size : Int) true)) else (none))) else (some (([] : List ByteArray), t121)))
theorem corporaref05_Parse.mono_l : ∀ k, (∀ y0 y1 y2, LeO (corporaref05_Parse.j0 k y0 y1 y2) (corporaref05_Parse.j0 (k + 1) y0 y1 y2)) ∧ (∀ y0 y1 y2 y3 y4, LeO (corporaref05_Parse.l0 k y0 y1 y2 y3 y4) (corporaref05_Parse.l0 (k + 1) y0 y1 y2 y3 y4)) ∧ (∀ y0 y1, LeO (corporaref05_Parse.l1 k y0 y1) (corporaref05_Parse.l1 (k + 1) y0 y1))
  | 0 => ⟨fun _ _ _ r h => by simp [corporaref05_Parse.j0] at h, fun _ _ _ _ _ r h => by simp [corporaref05_Parse.l0] at h, fun _ _ r h => by simp [corporaref05_Parse.l1] at h⟩
  | k + 1 => by
    obtain ⟨ih0, ih1, ih2⟩ := corporaref05_Parse.mono_l k
    refine ⟨?_, ?_, ?_⟩
    · intro y0 y1 y2
      unfold corporaref05_Parse.j0
      repeat' first
      | (with_reducible exact ih0 _ _ _)
      | (with_reducible exact ih1 _ _ _ _ _)
      | (with_reducible exact ih2 _ _)
      | (with_reducible exact LeO.refl _)
      | (with_reducible exact LeO.none _)
      | (with_reducible refine LeO.ite ?_ ?_)
      | (with_reducible refine LeO.bind ?_ (fun _ => ?_))
      | exact ih0 _ _ _
      | exact ih1 _ _ _ _ _
      | exact ih2 _ _
      | exact LeO.none _
      | refine LeO.ite ?_ ?_
      | refine LeO.bind ?_ (fun _ => ?_)
    · intro y0 y1 y2 y3 y4
      unfold corporaref05_Parse.l0
      repeat' first
      | (with_reducible exact ih0 _ _ _)
      | (with_reducible exact ih1 _ _ _ _ _)
      | (with_reducible exact ih2 _ _)
      | (with_reducible exact LeO.refl _)
      | (with_reducible exact LeO.none _)
      | (with_reducible refine LeO.ite ?_ ?_)
      | (with_reducible refine LeO.bind ?_ (fun _ => ?_))
      | exact ih0 _ _ _
      | exact ih1 _ _ _ _ _
      | exact ih2 _ _
      | exact LeO.none _
      | refine LeO.ite ?_ ?_
      | refine LeO.bind ?_ (fun _ => ?_)
    · intro y0 y1
      unfold corporaref05_Parse.l1
      repeat' first
      | (with_reducible exact ih0 _ _ _)
      | (with_reducible exact ih1 _ _ _ _ _)
      | (with_reducible exact ih2 _ _)
      | (with_reducible exact LeO.refl _)
      | (with_reducible exact LeO.none _)
      | (with_reducible refine LeO.ite ?_ ?_)
      | (with_reducible refine LeO.bind ?_ (fun _ => ?_))
      | exact ih0 _ _ _
      | exact ih1 _ _ _ _ _
      | exact ih2 _ _
      | exact LeO.none _
      | refine LeO.ite ?_ ?_
      | refine LeO.bind ?_ (fun _ => ?_)
theorem corporaref05_Parse.mono : ∀ a0 k, LeO (corporaref05_Parse.f k a0) (corporaref05_Parse.f (k + 1) a0) := by
  intro a0 k
  obtain ⟨ih0, ih1, ih2⟩ := corporaref05_Parse.mono_l k
  unfold corporaref05_Parse.f
  repeat' first
      | (with_reducible exact ih0 _ _ _)
      | (with_reducible exact ih1 _ _ _ _ _)
      | (with_reducible exact ih2 _ _)
      | (with_reducible exact LeO.refl _)
      | (with_reducible exact LeO.none _)
      | (with_reducible refine LeO.ite ?_ ?_)
      | (with_reducible refine LeO.bind ?_ (fun _ => ?_))
      | exact ih0 _ _ _
      | exact ih1 _ _ _ _ _
      | exact ih2 _ _
      | exact LeO.none _
      | refine LeO.ite ?_ ?_
      | refine LeO.bind ?_ (fun _ => ?_)
set_option maxHeartbeats 8000000 in
set_option maxRecDepth 100000 in
theorem corporaref05_Parse.calls (k : Nat) (a0 : ByteArray) (r1 : List ByteArray) (r2 : Int) (w : World) (h : corporaref05_Parse.f k a0 = some (r1, r2)) :
    Calls Try.prog 13 #[.string a0] w fun e w' => ∃ v0_ : Value, e = .returned (.tuple #[v0_, .int .i64 r2]) ∧ Kd.R Kd.string 9 w' w.heap.size (fun _ => True) v0_ r1 ∧ Below w.heap.size w w' := by
  have HB := Aside0.mk (Below.refl w.heap.size w)
  have H : ((corporaref04_ValidValue.f a0).bind fun t121 => (if t121 = 0 then (if (a0.size : Int) = 0 then (corporaref05_Parse.j0 k a0 (a0.size : Int) true) else (if 0 < (a0.size : Int) then (if (bt a0 0) = 124 then (if 0 ≤ (wrap64 ((a0.size : Int) - 1)) then (if (wrap64 ((a0.size : Int) - 1)) < (a0.size : Int) then (corporaref05_Parse.j0 k a0 (a0.size : Int) ((bt a0 (wrap64 ((a0.size : Int) - 1))) != 124)) else (none)) else (none)) else (corporaref05_Parse.j0 k a0 (a0.size : Int) true)) else (none))) else (some (([] : List ByteArray), t121)))) = some (r1, r2) := h
  clear h
  replace H := Option.bind_eq_some_iff.mp H
  obtain ⟨t121, A20, H⟩ := H
  replace H : (if t121 = 0 then (if (a0.size : Int) = 0 then (corporaref05_Parse.j0 k a0 (a0.size : Int) true) else (if 0 < (a0.size : Int) then (if (bt a0 0) = 124 then (if 0 ≤ (wrap64 ((a0.size : Int) - 1)) then (if (wrap64 ((a0.size : Int) - 1)) < (a0.size : Int) then (corporaref05_Parse.j0 k a0 (a0.size : Int) ((bt a0 (wrap64 ((a0.size : Int) - 1))) != 124)) else (none)) else (none)) else (corporaref05_Parse.j0 k a0 (a0.size : Int) true)) else (none))) else (some (([] : List ByteArray), t121))) = some (r1, r2) := H
  have A2 := Aside0.mk A20
  clear A20
  by_cases c3 : t121 = 0
  · rw [if_pos c3] at H
    have c3b0 : (t121 == 0) = true := beq_iff_eq.mpr c3
    have c3b1 : (t121 != 0) = false := bne_eq_false_iff_eq.mpr c3
    clear c3
    have HC4 := Aside0.mk H
    clear H
    go_enter Try.func13, Try.ntmps13
    go_upto_region 5 with (first | (go_at_call 27; (with_reducible refine (corporaref04_ValidValue.calls a0 t121 _ A2.out).mono ?_); rintro e w5 ⟨rfl, hb⟩; have n0_ := Aside0.mk (below_step (by repeat (first | (with_reducible first | exact HB.out | apply below_alloc | apply pw_below_drewN | apply below_drew1) | exact HB.out)) hb); clear HB; have HB := n0_; clear n0_; (try clear hb); (try clear hb2); (try clear hk); (try clear hi)))
    repeat (go_quiet (first | (go_at_call 27; (with_reducible refine (corporaref04_ValidValue.calls a0 t121 _ A2.out).mono ?_); rintro e w5 ⟨rfl, hb⟩; have n0_ := Aside0.mk (below_step (by repeat (first | (with_reducible first | exact HB.out | apply below_alloc | apply pw_below_drewN | apply below_drew1) | exact HB.out)) hb); clear HB; have HB := n0_; clear n0_; (try clear hb); (try clear hb2); (try clear hk); (try clear hi))); go_upto_region 5 with (first | (go_at_call 27; (with_reducible refine (corporaref04_ValidValue.calls a0 t121 _ A2.out).mono ?_); rintro e w5 ⟨rfl, hb⟩; have n0_ := Aside0.mk (below_step (by repeat (first | (with_reducible first | exact HB.out | apply below_alloc | apply pw_below_drewN | apply below_drew1) | exact HB.out)) hb); clear HB; have HB := n0_; clear n0_; (try clear hb); (try clear hb2); (try clear hk); (try clear hi))))
    (try simp only [Act.put, List.setIfInBounds_toArray, List.set_cons_zero, List.set_cons_succ])
    go_cut [30] (fun v30 wc => ∃ (kq : Nat) (x30_3 : Bool), v30 = .bool x30_3 ∧ Aside0 (corporaref05_Parse.j0 kq a0 (a0.size : Int) x30_3 = some (r1, r2)) ∧ Aside0 (kq ≤ k) ∧ Aside0 (Below w.heap.size w wc))
    case first =>
      have H := HC4.out
      clear HC4
      by_cases c6 : (a0.size : Int) = 0
      · rw [if_pos c6] at H
        have c6b0 : ((a0.size : Int) == 0) = true := beq_iff_eq.mpr c6
        have c6b1 : ((a0.size : Int) != 0) = false := bne_eq_false_iff_eq.mpr c6
        clear c6
        (first | rw [c6b0] | (simp only [i64_w, i32_w]; rw [c6b0]) | skip)
        have H' := Aside0.mk H
        clear H
        go_wp2
        repeat (go_quiet (fail); try go_wp2)
        go_meet
        case rel => exact ⟨_, (true), (by first | rfl | (simp; done) | (simp [*]; done)), H', ⟨by first | omega | exact Nat.le_refl _⟩, ⟨by repeat (first | (with_reducible first | exact HB.out | apply below_alloc | apply pw_below_drewN | apply below_drew1) | exact HB.out)⟩⟩
      · rw [if_neg c6] at H
        have c6b0 : ((a0.size : Int) == 0) = false := beq_eq_false_iff_ne.mpr c6
        have c6b1 : ((a0.size : Int) != 0) = true := bne_iff_ne.mpr c6
        (first | rw [c6b0] | (simp only [i64_w, i32_w]; rw [c6b0]) | skip)
        by_cases c7 : 0 < (a0.size : Int)
        · rw [if_pos c7] at H
          have c7b0 : decide (0 < (a0.size : Int)) = true := decide_eq_true c7
          have c7b1 : decide (0 < a0.size) = true := decide_eq_true (by omega)
          clear c7
          by_cases c9 : (bt a0 0) = 124
          · rw [if_pos c9] at H
            have c9b0 : ((bt a0 0) == 124) = true := beq_iff_eq.mpr c9
            have c9b1 : ((bt a0 0) != 124) = false := bne_eq_false_iff_eq.mpr c9
            clear c9
            obtain ⟨ji10, hji10⟩ : ∃ j_ : Int, (wrap64 ((a0.size : Int) - 1)) = j_ := ⟨_, rfl⟩
            replace H : (if 0 ≤ (ji10) then (if (ji10) < (a0.size : Int) then (corporaref05_Parse.j0 k a0 (a0.size : Int) ((bt a0 (ji10)) != 124)) else (none)) else (none)) = some (r1, r2) := by first | (rw [hji10] at H; exact H) | (simp only [hji10] at H ⊢; exact H)
            have hji10w : (IntKind.i64.wrap ((a0.size : Int) - 1)) = ji10 := (i64_w _).trans hji10
            by_cases c11 : 0 ≤ (ji10)
            · rw [if_pos c11] at H
              have c11b0 : decide (0 ≤ (ji10)) = true := decide_eq_true c11
              clear c11
              by_cases c12 : (ji10) < (a0.size : Int)
              · rw [if_pos c12] at H
                have c12b0 : decide ((ji10) < (a0.size : Int)) = true := decide_eq_true c12
                clear c12
                have H' := Aside0.mk H
                clear H
                have p8 : 0 ≤ (0 : Int) := (by omega)
                have q8 : 0 < a0.size := (by have : (0 : Int) < (a0.size : Int) := of_decide_eq_true (by first | (with_reducible assumption) | assumption); omega)
                have hx8 : ∀ h : 0 < a0.size, ((a0[0]'h).toNat : Int) = bt a0 0 := bt_at a0 0
                clear p8
                have qi8 : (0 < (a0.size : Int)) = True := eq_true (of_decide_eq_true (by first | (with_reducible assumption) | assumption))
                replace q8 := eq_true q8
                have p13 : 0 ≤ ((ji10) : Int) := of_decide_eq_true (by first | (with_reducible assumption) | assumption)
                have q13 : (ji10) < (a0.size : Int) := of_decide_eq_true (by first | (with_reducible assumption) | assumption)
                have hx13 := bt_at a0 (ji10)
                replace p13 := eq_true p13
                replace q13 := eq_true q13
                go_wp2
                repeat (go_quiet (fail); try go_wp2)
                go_meet
                case rel => exact ⟨_, (((bt a0 (ji10)) != 124)), (by first | rfl | (simp; done) | (simp only [← hji10] <;> (first | rfl | simp)) | (simp [*]; done)), H', ⟨by first | omega | exact Nat.le_refl _⟩, ⟨by repeat (first | (with_reducible first | exact HB.out | apply below_alloc | apply pw_below_drewN | apply below_drew1) | exact HB.out)⟩⟩
              · rw [if_neg c12] at H
                exact absurd H (by simp)
            · rw [if_neg c11] at H
              exact absurd H (by simp)
          · rw [if_neg c9] at H
            have c9b0 : ((bt a0 0) == 124) = false := beq_eq_false_iff_ne.mpr c9
            have c9b1 : ((bt a0 0) != 124) = true := bne_iff_ne.mpr c9
            have H' := Aside0.mk H
            clear H
            have p8 : 0 ≤ (0 : Int) := (by omega)
            have q8 : 0 < a0.size := (by have : (0 : Int) < (a0.size : Int) := of_decide_eq_true (by first | (with_reducible assumption) | assumption); omega)
            have hx8 : ∀ h : 0 < a0.size, ((a0[0]'h).toNat : Int) = bt a0 0 := bt_at a0 0
            clear p8
            have qi8 : (0 < (a0.size : Int)) = True := eq_true (of_decide_eq_true (by first | (with_reducible assumption) | assumption))
            replace q8 := eq_true q8
            go_wp2
            repeat (go_quiet (fail); try go_wp2)
            go_meet
            case rel => exact ⟨_, (true), (by first | rfl | (simp; done) | (simp [*]; done)), H', ⟨by first | omega | exact Nat.le_refl _⟩, ⟨by repeat (first | (with_reducible first | exact HB.out | apply below_alloc | apply pw_below_drewN | apply below_drew1) | exact HB.out)⟩⟩
        · rw [if_neg c7] at H
          exact absurd H (by simp)
    case rest =>
      clear HC4
      try clear c1
      try clear p1
      try clear q1
      try clear hx1
      try clear p2
      try clear c3
      try clear c3b0
      try clear c3b1
      try clear c6
      try clear c6b0
      try clear c6b1
      try clear p6
      try clear c7
      try clear c7b0
      try clear c7b1
      try clear p8
      try clear q8
      try clear hx8
      try clear qi8
      try clear c9
      try clear c9b0
      try clear c9b1
      try clear c11
      try clear c11b0
      try clear c12
      try clear c12b0
      try clear c13
      try clear p13
      try clear q13
      try clear hx13
      try clear p13
      try clear p8
      try clear q13
      try clear q8
      obtain ⟨kq, x30_3, rfl, HA, HJ3, HB⟩ := hcut
      cases kq with
      | zero => exact absurd HA.out (by simp [corporaref05_Parse.j0])
      | succ kj3 =>
        have H := HA.out
        clear HA
        simp only [corporaref05_Parse.j0] at H
        by_cases c14 : x30_3 = true
        · subst c14
          have H1 : (some (([] : List ByteArray), 3)) = some (r1, r2) := by rw [if_pos rfl] at H; exact H
          clear H
          have H := H1
          clear H1
          simp only [Option.some.injEq, Prod.mk.injEq] at H
          obtain ⟨rfl, rfl⟩ := H
          go_wp2
          repeat (go_quiet (fail); try go_wp2)
          go_ret2
          exact ⟨_, by first | rfl | (simp [errW_none, errW_some] <;> rfl) | (simp [*, errW_none, errW_some] <;> rfl), by first | exact Kd.R_nil _ _ _ _ _ | exact Kd.N_nil _ _ _ _ _ | exact Kd.V_nil _ _ _ _ _ | exact Kd.Q_nil _ _ _ _ _ | exact Kd.S_nil _ _ _ _ _, by repeat (first | (with_reducible first | exact HB.out | apply below_alloc | apply pw_below_drewN | apply below_drew1) | exact HB.out)⟩
        · replace c14 := Bool.eq_false_iff.mpr c14
          subst c14
          have H1 : (corporaref05_Parse.l0 kj3 a0 (a0.size : Int) ([] : List ByteArray) 1 1) = some (r1, r2) := by rw [if_neg (show ¬ (false = true) by decide)] at H; exact H
          clear H
          have H := H1
          clear H1
          have H' := Aside0.mk H
          clear H
          go_wp2
          repeat (go_quiet (fail); try go_wp2)
          go_loopg [6, 7, 8] kj3 (fun kq v6 v7 v8 w' => ∃ (x6_2 : List ByteArray) (x7_2 : Int) (x8_2 : Int), v7 = .int .i64 x7_2 ∧ v8 = .int .i64 x8_2 ∧ Aside0 (corporaref05_Parse.l0 kq a0 (a0.size : Int) x6_2 x7_2 x8_2 = some (r1, r2)) ∧ Aside0 (kq ≤ kj3) ∧ Aside0 (Kd.R Kd.string 9 w' w.heap.size (fun _ => True) v6 x6_2) ∧ Aside0 (Below w.heap.size w w'))
          case atStart => exact ⟨(([] : List ByteArray)), (1), (1), (by first | rfl | (simp; done) | (simp [*]; done)), (by first | rfl | (simp; done) | (simp [*]; done)), H', ⟨Nat.le_refl _⟩, ⟨by first | exact Kd.R_nil _ _ _ _ _ | exact Kd.N_nil _ _ _ _ _ | exact Kd.V_nil _ _ _ _ _ | exact Kd.Q_nil _ _ _ _ _ | exact Kd.S_nil _ _ _ _ _⟩, ⟨by repeat (first | (with_reducible first | exact HB.out | apply below_alloc | apply pw_below_drewN | apply below_drew1) | exact HB.out)⟩⟩
          case round =>
            clear H'
            try clear c1
            try clear p1
            try clear q1
            try clear hx1
            try clear p2
            try clear c3
            try clear c3b0
            try clear c3b1
            try clear c6
            try clear c6b0
            try clear c6b1
            try clear p6
            try clear c7
            try clear c7b0
            try clear c7b1
            try clear p8
            try clear q8
            try clear hx8
            try clear qi8
            try clear c9
            try clear c9b0
            try clear c9b1
            try clear c11
            try clear c11b0
            try clear c12
            try clear c12b0
            try clear c13
            try clear p13
            try clear q13
            try clear hx13
            try clear c14
            try clear p1
            try clear p13
            try clear p2
            try clear p6
            try clear p8
            try clear q1
            try clear q13
            try clear q8
            obtain ⟨x6_2, x7_2, x8_2, rfl, rfl, HA, HK2, HO_6, HB⟩ := hrel
            cases gk with
            | zero => exact absurd HA.out (by simp [corporaref05_Parse.l0])
            | succ k2 =>
              have H := HA.out
              clear HA
              simp only [corporaref05_Parse.l0] at H
              by_cases c15 : x8_2 < (a0.size : Int)
              · rw [if_pos c15] at H
                have c15b0 : decide (x8_2 < (a0.size : Int)) = true := decide_eq_true c15
                clear c15
                by_cases c16 : 0 ≤ x8_2
                · rw [if_pos c16] at H
                  have c16b0 : decide (0 ≤ x8_2) = true := decide_eq_true c16
                  clear c16
                  by_cases c17 : x8_2 < (a0.size : Int)
                  · rw [if_pos c17] at H
                    have c17b0 : decide (x8_2 < (a0.size : Int)) = true := decide_eq_true c17
                    clear c17
                    by_cases c19 : (bt a0 x8_2) = 124
                    · rw [if_pos c19] at H
                      have c19b0 : ((bt a0 x8_2) == 124) = true := beq_iff_eq.mpr c19
                      have c19b1 : ((bt a0 x8_2) != 124) = false := bne_eq_false_iff_eq.mpr c19
                      clear c19
                      by_cases c20 : x8_2 = x7_2
                      · rw [if_pos c20] at H
                        have c20b0 : (x8_2 == x7_2) = true := beq_iff_eq.mpr c20
                        have c20b1 : (x8_2 != x7_2) = false := bne_eq_false_iff_eq.mpr c20
                        clear c20
                        simp only [Option.some.injEq, Prod.mk.injEq] at H
                        obtain ⟨rfl, rfl⟩ := H
                        have p18 : 0 ≤ (x8_2 : Int) := of_decide_eq_true (by first | (with_reducible assumption) | assumption)
                        have q18 : x8_2 < (a0.size : Int) := of_decide_eq_true (by first | (with_reducible assumption) | assumption)
                        have hx18 := bt_at a0 x8_2
                        replace p18 := eq_true p18
                        replace q18 := eq_true q18
                        go_wp2
                        repeat (go_quiet (fail); try go_wp2)
                        go_ret2
                        exact ⟨_, by first | rfl | (simp [errW_none, errW_some] <;> rfl) | (simp [*, errW_none, errW_some] <;> rfl), by first | exact Kd.R_nil _ _ _ _ _ | exact Kd.N_nil _ _ _ _ _ | exact Kd.V_nil _ _ _ _ _ | exact Kd.Q_nil _ _ _ _ _ | exact Kd.S_nil _ _ _ _ _, by repeat (first | (with_reducible first | exact HB.out | apply below_alloc | apply pw_below_drewN | apply below_drew1) | exact HB.out)⟩
                      · rw [if_neg c20] at H
                        have c20b0 : (x8_2 == x7_2) = false := beq_eq_false_iff_ne.mpr c20
                        have c20b1 : (x8_2 != x7_2) = true := bne_iff_ne.mpr c20
                        by_cases c21 : 0 ≤ x7_2
                        · rw [if_pos c21] at H
                          have c21b0 := eq_true c21
                          have c21b1 : decide (0 ≤ x7_2) = true := decide_eq_true c21
                          clear c21
                          by_cases c22 : x7_2 ≤ x8_2
                          · rw [if_pos c22] at H
                            have c22b0 := eq_true c22
                            have c22b1 : decide (x7_2 ≤ x8_2) = true := decide_eq_true c22
                            clear c22
                            by_cases c23 : x8_2 ≤ (a0.size : Int)
                            · rw [if_pos c23] at H
                              have c23b0 := eq_true c23
                              have c23b1 : decide (x8_2 ≤ (a0.size : Int)) = true := decide_eq_true c23
                              clear c23
                              by_cases c24 : x6_2.length < 8796093022208
                              · rw [if_pos c24] at H
                                have LMc24 := Aside0.mk c24
                                clear c24
                                obtain ⟨y122, hy122⟩ : ∃ y_ : List ByteArray, y_ = (x6_2 ++ [a0.extract (x7_2 : Int).toNat (x8_2 : Int).toNat]) := ⟨_, rfl⟩
                                replace H : (corporaref05_Parse.l0 k2 a0 (a0.size : Int) y122 (wrap64 (x8_2 + 1)) (wrap64 (x8_2 + 1))) = some (r1, r2) := by first | (rw [hy122]; with_reducible exact H) | (have H2_ := (Option.bind_some _ _).symm.trans H; rw [hy122]; with_reducible exact H2_) | (have H2_ := (Option.bind_some _ _).symm.trans H; with_reducible exact H2_) | with_reducible exact H | (rw [hy122]; exact H) | exact H
                                have Ny122 := Aside0.mk hy122
                                clear hy122
                                have H' := Aside0.mk H
                                clear H
                                have p18 : 0 ≤ (x8_2 : Int) := of_decide_eq_true (by first | (with_reducible assumption) | assumption)
                                have q18 : x8_2 < (a0.size : Int) := of_decide_eq_true (by first | (with_reducible assumption) | assumption)
                                have hx18 := bt_at a0 x8_2
                                replace p18 := eq_true p18
                                replace q18 := eq_true q18
                                go_wp2_with (first | ((with_reducible refine gate_builtin (b := .append) (xs := #[.tmp 43, .tmp 48]) rfl ?_); at_builtin; refine Kd.R_append Kd.string (w0 := w) w.heap.size rfl (.tmp 43) (.tmp 48) 23 9 (.string ⟨#[]⟩) 16 rfl Try.underlying23 info9 rfl (by decide) (by omega) u6 x6_2 (a0.extract (x7_2 : Int).toNat (x8_2 : Int).toNat) [.string (a0.extract (x7_2 : Int).toNat (x8_2 : Int).toNat)] (fun _ => True) (fun _ => False) rfl rfl ?aP (fun _ hk => hk.elim) ?aF ?aO ?aB ?aS ?aL ?_; (case aP => exact rfl); (case aB => exact (by repeat (first | (with_reducible first | exact HB.out | apply below_alloc | apply pw_below_drewN | apply below_drew1) | exact HB.out))); (case aF => exact (fun _ _ => trivial)); (case aO => exact (by (with_reducible repeat (first | apply Kd.R_alloc | apply Kd.R_drewN | apply Kd.R_drew)); exact HO_6.out)); (case aS => exact (below_size (by repeat (first | (with_reducible first | exact HB.out | apply below_alloc | apply pw_below_drewN | apply below_drew1) | exact HB.out)))); (case aL => have := LMc24.out; omega); intro v123 w25 ho hb hg hat; rw [← Ny122.out] at ho; have n0_ := Aside0.mk (hb); have n1_ := Aside0.mk (ho); clear HB; clear HO_6; have HB := n0_; have HO124 := n1_; clear n0_ n1_; clear ho hb hg hat))
                                repeat (go_quiet (first | ((with_reducible refine gate_builtin (b := .append) (xs := #[.tmp 43, .tmp 48]) rfl ?_); at_builtin; refine Kd.R_append Kd.string (w0 := w) w.heap.size rfl (.tmp 43) (.tmp 48) 23 9 (.string ⟨#[]⟩) 16 rfl Try.underlying23 info9 rfl (by decide) (by omega) u6 x6_2 (a0.extract (x7_2 : Int).toNat (x8_2 : Int).toNat) [.string (a0.extract (x7_2 : Int).toNat (x8_2 : Int).toNat)] (fun _ => True) (fun _ => False) rfl rfl ?aP (fun _ hk => hk.elim) ?aF ?aO ?aB ?aS ?aL ?_; (case aP => exact rfl); (case aB => exact (by repeat (first | (with_reducible first | exact HB.out | apply below_alloc | apply pw_below_drewN | apply below_drew1) | exact HB.out))); (case aF => exact (fun _ _ => trivial)); (case aO => exact (by (with_reducible repeat (first | apply Kd.R_alloc | apply Kd.R_drewN | apply Kd.R_drew)); exact HO_6.out)); (case aS => exact (below_size (by repeat (first | (with_reducible first | exact HB.out | apply below_alloc | apply pw_below_drewN | apply below_drew1) | exact HB.out)))); (case aL => have := LMc24.out; omega); intro v123 w25 ho hb hg hat; rw [← Ny122.out] at ho; have n0_ := Aside0.mk (hb); have n1_ := Aside0.mk (ho); clear HB; clear HO_6; have HB := n0_; have HO124 := n1_; clear n0_ n1_; clear ho hb hg hat)); try go_wp2_with (first | ((with_reducible refine gate_builtin (b := .append) (xs := #[.tmp 43, .tmp 48]) rfl ?_); at_builtin; refine Kd.R_append Kd.string (w0 := w) w.heap.size rfl (.tmp 43) (.tmp 48) 23 9 (.string ⟨#[]⟩) 16 rfl Try.underlying23 info9 rfl (by decide) (by omega) u6 x6_2 (a0.extract (x7_2 : Int).toNat (x8_2 : Int).toNat) [.string (a0.extract (x7_2 : Int).toNat (x8_2 : Int).toNat)] (fun _ => True) (fun _ => False) rfl rfl ?aP (fun _ hk => hk.elim) ?aF ?aO ?aB ?aS ?aL ?_; (case aP => exact rfl); (case aB => exact (by repeat (first | (with_reducible first | exact HB.out | apply below_alloc | apply pw_below_drewN | apply below_drew1) | exact HB.out))); (case aF => exact (fun _ _ => trivial)); (case aO => exact (by (with_reducible repeat (first | apply Kd.R_alloc | apply Kd.R_drewN | apply Kd.R_drew)); exact HO_6.out)); (case aS => exact (below_size (by repeat (first | (with_reducible first | exact HB.out | apply below_alloc | apply pw_below_drewN | apply below_drew1) | exact HB.out)))); (case aL => have := LMc24.out; omega); intro v123 w25 ho hb hg hat; rw [← Ny122.out] at ho; have n0_ := Aside0.mk (hb); have n1_ := Aside0.mk (ho); clear HB; clear HO_6; have HB := n0_; have HO124 := n1_; clear n0_ n1_; clear ho hb hg hat)))
                                go_roundg k2
                                case measure => have := HJ3.out; have := HK2.out; omega
                                case rel => exact ⟨(y122), (wrap64 (x8_2 + 1)), (wrap64 (x8_2 + 1)), (by first | rfl | (simp; done) | (simp [*]; done)), (by first | rfl | (simp; done) | (simp [*]; done)), H', ⟨by have := HJ3.out; have := HK2.out; omega⟩, ⟨by (with_reducible repeat (first | apply Kd.R_alloc | apply Kd.R_drewN | apply Kd.R_drew)); exact HO124.out⟩, ⟨by repeat (first | (with_reducible first | exact HB.out | apply below_alloc | apply pw_below_drewN | apply below_drew1) | exact HB.out)⟩⟩
                              · rw [if_neg c24] at H
                                exact absurd H (by simp)
                            · rw [if_neg c23] at H
                              exact absurd H (by simp)
                          · rw [if_neg c22] at H
                            exact absurd H (by simp)
                        · rw [if_neg c21] at H
                          exact absurd H (by simp)
                    · rw [if_neg c19] at H
                      have c19b0 : ((bt a0 x8_2) == 124) = false := beq_eq_false_iff_ne.mpr c19
                      have c19b1 : ((bt a0 x8_2) != 124) = true := bne_iff_ne.mpr c19
                      have H' := Aside0.mk H
                      clear H
                      have p18 : 0 ≤ (x8_2 : Int) := of_decide_eq_true (by first | (with_reducible assumption) | assumption)
                      have q18 : x8_2 < (a0.size : Int) := of_decide_eq_true (by first | (with_reducible assumption) | assumption)
                      have hx18 := bt_at a0 x8_2
                      replace p18 := eq_true p18
                      replace q18 := eq_true q18
                      go_wp2
                      repeat (go_quiet (fail); try go_wp2)
                      go_roundg k2
                      case measure => have := HJ3.out; have := HK2.out; omega
                      case rel => exact ⟨(x6_2), (x7_2), (wrap64 (x8_2 + 1)), (by first | rfl | (simp; done) | (simp [*]; done)), (by first | rfl | (simp; done) | (simp [*]; done)), H', ⟨by have := HJ3.out; have := HK2.out; omega⟩, ⟨by (with_reducible repeat (first | apply Kd.R_alloc | apply Kd.R_drewN | apply Kd.R_drew)); exact HO_6.out⟩, ⟨by repeat (first | (with_reducible first | exact HB.out | apply below_alloc | apply pw_below_drewN | apply below_drew1) | exact HB.out)⟩⟩
                  · rw [if_neg c17] at H
                    exact absurd H (by simp)
                · rw [if_neg c16] at H
                  exact absurd H (by simp)
              · rw [if_neg c15] at H
                have c15b0 : decide (x8_2 < (a0.size : Int)) = false := decide_eq_false c15
                clear c15
                have H' := Aside0.mk H
                clear H
                go_wp2
                repeat (go_quiet (fail); try go_wp2)
                go_loopg [9] k2 (fun kq v9 w' => ∃ (x9_3 : Int), v9 = .int .i64 x9_3 ∧ Aside0 (corporaref05_Parse.l1 kq x6_2 x9_3 = some (r1, r2)) ∧ Aside0 (kq ≤ k2) ∧ Aside0 (Kd.R Kd.string 9 w' w.heap.size (fun _ => True) u6 x6_2) ∧ Aside0 (Below w.heap.size w w'))
                case atStart => exact ⟨(1), (by first | rfl | (simp; done) | (simp [*]; done)), H', ⟨Nat.le_refl _⟩, ⟨by (with_reducible repeat (first | apply Kd.R_alloc | apply Kd.R_drewN | apply Kd.R_drew)); exact HO_6.out⟩, ⟨by repeat (first | (with_reducible first | exact HB.out | apply below_alloc | apply pw_below_drewN | apply below_drew1) | exact HB.out)⟩⟩
                case round =>
                  clear H'
                  try clear c1
                  try clear p1
                  try clear q1
                  try clear hx1
                  try clear c2
                  try clear p2
                  try clear c3
                  try clear c3b0
                  try clear c3b1
                  try clear c6
                  try clear c6b0
                  try clear c6b1
                  try clear p6
                  try clear c7
                  try clear c7b0
                  try clear c7b1
                  try clear p8
                  try clear q8
                  try clear hx8
                  try clear qi8
                  try clear c9
                  try clear c9b0
                  try clear c9b1
                  try clear c11
                  try clear c11b0
                  try clear c12
                  try clear c12b0
                  try clear c13
                  try clear p13
                  try clear q13
                  try clear hx13
                  try clear c14
                  try clear c15
                  try clear c15b0
                  try clear c16
                  try clear c16b0
                  try clear c17
                  try clear c17b0
                  try clear p18
                  try clear q18
                  try clear hx18
                  try clear c19
                  try clear c19b0
                  try clear c19b1
                  try clear c20
                  try clear c20b0
                  try clear c20b1
                  try clear c21
                  try clear c21b0
                  try clear c21b1
                  try clear c22
                  try clear c22b0
                  try clear c22b1
                  try clear c23
                  try clear c23b0
                  try clear c23b1
                  try clear c24
                  try clear p1
                  try clear p13
                  try clear p18
                  try clear p2
                  try clear p6
                  try clear p8
                  try clear q1
                  try clear q13
                  try clear q18
                  try clear q8
                  obtain ⟨x9_3, rfl, HA, HK3, HO_6, HB⟩ := hrel
                  cases gk with
                  | zero => exact absurd HA.out (by simp [corporaref05_Parse.l1])
                  | succ k3 =>
                    have H := HA.out
                    clear HA
                    simp only [corporaref05_Parse.l1] at H
                    by_cases c26 : x9_3 < (x6_2.length : Int)
                    · rw [if_pos c26] at H
                      have c26b0 : decide (x9_3 < (x6_2.length : Int)) = true := decide_eq_true c26
                      clear c26
                      obtain ⟨ji27, hji27⟩ : ∃ j_ : Int, (wrap64 (x9_3 - 1)) = j_ := ⟨_, rfl⟩
                      replace H : (if 0 ≤ (ji27) then (if (ji27) < (x6_2.length : Int) then (if 0 ≤ x9_3 then (if ((Op.bytesLess ((rdOf ByteArray.empty x6_2 (ji27)).toList) ((rdOf ByteArray.empty x6_2 x9_3).toList)) = true) then (corporaref05_Parse.l1 k3 x6_2 (wrap64 (x9_3 + 1))) else (some (([] : List ByteArray), 6))) else (none)) else (none)) else (none)) = some (r1, r2) := by first | (rw [hji27] at H; exact H) | (simp only [hji27] at H ⊢; exact H)
                      have hji27w : (IntKind.i64.wrap (x9_3 - 1)) = ji27 := (i64_w _).trans hji27
                      by_cases c28 : 0 ≤ (ji27)
                      · rw [if_pos c28] at H
                        have c28b0 : decide (0 ≤ (ji27)) = true := decide_eq_true c28
                        clear c28
                        by_cases c29 : (ji27) < (x6_2.length : Int)
                        · rw [if_pos c29] at H
                          have c29b0 : decide ((ji27) < (x6_2.length : Int)) = true := decide_eq_true c29
                          clear c29
                          by_cases c30 : 0 ≤ x9_3
                          · rw [if_pos c30] at H
                            have c30b0 : decide (0 ≤ x9_3) = true := decide_eq_true c30
                            clear c30
                            by_cases c31 : ((Op.bytesLess ((rdOf ByteArray.empty x6_2 (ji27)).toList) ((rdOf ByteArray.empty x6_2 x9_3).toList)) = true)
                            · rw [if_pos c31] at H
                              have c31b0 : (Op.bytesLess ((rdOf ByteArray.empty x6_2 (ji27)).toList) ((rdOf ByteArray.empty x6_2 x9_3).toList)) = true := c31
                              clear c31
                              have H' := Aside0.mk H
                              clear H
                              obtain ⟨Ao32, co32, eo32⟩ := Kd.R_slice HO_6.out
                              subst eo32
                              have p125 : 0 ≤ ((ji27) : Int) := of_decide_eq_true (by first | (with_reducible assumption) | assumption)
                              have q125 : (ji27) < (x6_2.length : Int) := of_decide_eq_true (by first | (with_reducible assumption) | assumption)
                              obtain ⟨ad125, e125, hx125_0⟩ := Kd.at_string (Kd.R_reads' HO_6.out).2.2 (ji27) p125 q125
                              cases e125
                              replace p125 := eq_true p125
                              replace q125 := eq_true q125
                              have p126 : 0 ≤ (x9_3 : Int) := of_decide_eq_true (by first | (with_reducible assumption) | assumption)
                              have q126 : x9_3 < (x6_2.length : Int) := of_decide_eq_true (by first | (with_reducible assumption) | assumption)
                              obtain ⟨ad126, e126, hx126_0⟩ := Kd.at_string (Kd.R_reads' HO_6.out).2.2 x9_3 p126 q126
                              obtain rfl : ad125 = ad126 := (by injection e126)
                              replace p126 := eq_true p126
                              replace q126 := eq_true q126
                              go_wp2
                              repeat (go_quiet (fail); try go_wp2)
                              go_roundg k3
                              case measure => have := HJ3.out; have := HK2.out; have := HK3.out; omega
                              case rel => exact ⟨(wrap64 (x9_3 + 1)), (by first | rfl | (simp; done) | (simp [*]; done)), H', ⟨by have := HJ3.out; have := HK2.out; have := HK3.out; omega⟩, ⟨by (with_reducible repeat (first | apply Kd.R_alloc | apply Kd.R_drewN | apply Kd.R_drew)); exact HO_6.out⟩, ⟨by repeat (first | (with_reducible first | exact HB.out | apply below_alloc | apply pw_below_drewN | apply below_drew1) | exact HB.out)⟩⟩
                            · rw [if_neg c31] at H
                              have c31b0 : (Op.bytesLess ((rdOf ByteArray.empty x6_2 (ji27)).toList) ((rdOf ByteArray.empty x6_2 x9_3).toList)) = false := by simpa using c31
                              clear c31
                              simp only [Option.some.injEq, Prod.mk.injEq] at H
                              obtain ⟨rfl, rfl⟩ := H
                              obtain ⟨Ao33, co33, eo33⟩ := Kd.R_slice HO_6.out
                              subst eo33
                              have p125 : 0 ≤ ((ji27) : Int) := of_decide_eq_true (by first | (with_reducible assumption) | assumption)
                              have q125 : (ji27) < (x6_2.length : Int) := of_decide_eq_true (by first | (with_reducible assumption) | assumption)
                              obtain ⟨ad125, e125, hx125_0⟩ := Kd.at_string (Kd.R_reads' HO_6.out).2.2 (ji27) p125 q125
                              cases e125
                              replace p125 := eq_true p125
                              replace q125 := eq_true q125
                              have p126 : 0 ≤ (x9_3 : Int) := of_decide_eq_true (by first | (with_reducible assumption) | assumption)
                              have q126 : x9_3 < (x6_2.length : Int) := of_decide_eq_true (by first | (with_reducible assumption) | assumption)
                              obtain ⟨ad126, e126, hx126_0⟩ := Kd.at_string (Kd.R_reads' HO_6.out).2.2 x9_3 p126 q126
                              obtain rfl : ad125 = ad126 := (by injection e126)
                              replace p126 := eq_true p126
                              replace q126 := eq_true q126
                              go_wp2
                              repeat (go_quiet (fail); try go_wp2)
                              go_ret2
                              exact ⟨_, by first | rfl | (simp [errW_none, errW_some] <;> rfl) | (simp only [← hji27]; first | rfl | (simp [errW_none, errW_some] <;> rfl)) | (simp [*, errW_none, errW_some] <;> rfl), by first | exact Kd.R_nil _ _ _ _ _ | exact Kd.N_nil _ _ _ _ _ | exact Kd.V_nil _ _ _ _ _ | exact Kd.Q_nil _ _ _ _ _ | exact Kd.S_nil _ _ _ _ _, by repeat (first | (with_reducible first | exact HB.out | apply below_alloc | apply pw_below_drewN | apply below_drew1) | exact HB.out)⟩
                          · rw [if_neg c30] at H
                            exact absurd H (by simp)
                        · rw [if_neg c29] at H
                          exact absurd H (by simp)
                      · rw [if_neg c28] at H
                        exact absurd H (by simp)
                    · rw [if_neg c26] at H
                      have c26b0 : decide (x9_3 < (x6_2.length : Int)) = false := decide_eq_false c26
                      clear c26
                      simp only [Option.some.injEq, Prod.mk.injEq] at H
                      obtain ⟨rfl, rfl⟩ := H
                      obtain ⟨Ao34, co34, eo34⟩ := Kd.R_slice HO_6.out
                      subst eo34
                      go_wp2
                      repeat (go_quiet (fail); try go_wp2)
                      go_ret2
                      exact ⟨_, by first | rfl | (simp [errW_none, errW_some] <;> rfl) | (simp [*, errW_none, errW_some] <;> rfl), by (with_reducible repeat (first | apply Kd.R_alloc | apply Kd.R_drewN | apply Kd.R_drew)); exact HO_6.out, by repeat (first | (with_reducible first | exact HB.out | apply below_alloc | apply pw_below_drewN | apply below_drew1) | exact HB.out)⟩
  · rw [if_neg c3] at H
    have c3b0 : (t121 == 0) = false := beq_eq_false_iff_ne.mpr c3
    have c3b1 : (t121 != 0) = true := bne_iff_ne.mpr c3
    simp only [Option.some.injEq, Prod.mk.injEq] at H
    obtain ⟨rfl, rfl⟩ := H
    go_enter Try.func13, Try.ntmps13
    go_wp2_with (first | (go_at_call 27; (with_reducible refine (corporaref04_ValidValue.calls a0 t121 _ A2.out).mono ?_); rintro e w35 ⟨rfl, hb⟩; have n0_ := Aside0.mk (below_step (by repeat (first | (with_reducible first | exact HB.out | apply below_alloc | apply pw_below_drewN | apply below_drew1) | exact HB.out)) hb); clear HB; have HB := n0_; clear n0_; (try clear hb); (try clear hb2); (try clear hk); (try clear hi)))
    repeat (go_quiet (first | (go_at_call 27; (with_reducible refine (corporaref04_ValidValue.calls a0 t121 _ A2.out).mono ?_); rintro e w35 ⟨rfl, hb⟩; have n0_ := Aside0.mk (below_step (by repeat (first | (with_reducible first | exact HB.out | apply below_alloc | apply pw_below_drewN | apply below_drew1) | exact HB.out)) hb); clear HB; have HB := n0_; clear n0_; (try clear hb); (try clear hb2); (try clear hk); (try clear hi))); try go_wp2_with (first | (go_at_call 27; (with_reducible refine (corporaref04_ValidValue.calls a0 t121 _ A2.out).mono ?_); rintro e w35 ⟨rfl, hb⟩; have n0_ := Aside0.mk (below_step (by repeat (first | (with_reducible first | exact HB.out | apply below_alloc | apply pw_below_drewN | apply below_drew1) | exact HB.out)) hb); clear HB; have HB := n0_; clear n0_; (try clear hb); (try clear hb2); (try clear hk); (try clear hi))))
    go_ret2
    exact ⟨_, by first | rfl | (simp [errW_none, errW_some] <;> rfl) | (simp [*, errW_none, errW_some] <;> rfl), by first | exact Kd.R_nil _ _ _ _ _ | exact Kd.N_nil _ _ _ _ _ | exact Kd.V_nil _ _ _ _ _ | exact Kd.Q_nil _ _ _ _ _ | exact Kd.S_nil _ _ _ _ _, by repeat (first | (with_reducible first | exact HB.out | apply below_alloc | apply pw_below_drewN | apply below_drew1) | exact HB.out)⟩

end Go.Proofs.Ytcgglamgemgeiaa.Q
/- FCorporalaw05Equal -/
namespace Go.Proofs.Ytcgglamgemgeiaa.Q
open Go.RowKit Go.Proofs.YtcgglamgemgeiaaW.PrintWords Go.Proofs.YtcgglamgemgeiaaW.PrintLast Go.Proofs.YtcgglamgemgeiaaW.PrintMore
attribute [local go_sem] max2_int min2_int max_two min_two max_three min_three max_four min_four   -- for this text's walks alone
set_option linter.unusedVariables false
set_option linter.unusedSimpArgs false

/-! ### corporalaw05_equal: function 14 -/
def corporalaw05_equal.l0 : Nat → List ByteArray → List ByteArray → Int → Int → Option (Bool)
  | 0, _, _, _, _ => none
  | k + 1, x0, x1, x12, x13 => if x13 < x12 then (if 0 ≤ x13 then (if x13 < (x0.length : Int) then (if x13 < (x1.length : Int) then (if (rdOf ByteArray.empty x0 x13).toList = (rdOf ByteArray.empty x1 x13).toList then (corporalaw05_equal.l0 k x0 x1 x12 (wrap64 (x13 + 1))) else (some false)) else (none)) else (none)) else (none)) else (some true)
def corporalaw05_equal.f (k : Nat) (l0 : List ByteArray) (l1 : List ByteArray) : Option (Bool) := if (l0.length : Int) = (l1.length : Int) then (corporalaw05_equal.l0 k l0 l1 (l0.length : Int) 0) else (some false)
theorem corporalaw05_equal.mono_l : ∀ k, (∀ y0 y1 y2 y3, LeO (corporalaw05_equal.l0 k y0 y1 y2 y3) (corporalaw05_equal.l0 (k + 1) y0 y1 y2 y3))
  | 0 => fun _ _ _ _ r h => by simp [corporalaw05_equal.l0] at h
  | k + 1 => by
    have ih0 := corporalaw05_equal.mono_l k
    · intro y0 y1 y2 y3
      unfold corporalaw05_equal.l0
      repeat' first
      | (with_reducible exact ih0 _ _ _ _)
      | (with_reducible exact LeO.refl _)
      | (with_reducible exact LeO.none _)
      | (with_reducible refine LeO.ite ?_ ?_)
      | (with_reducible refine LeO.bind ?_ (fun _ => ?_))
      | exact ih0 _ _ _ _
      | exact LeO.none _
      | refine LeO.ite ?_ ?_
      | refine LeO.bind ?_ (fun _ => ?_)
theorem corporalaw05_equal.mono : ∀ a0 a1 k, LeO (corporalaw05_equal.f k a0 a1) (corporalaw05_equal.f (k + 1) a0 a1) := by
  intro a0 a1 k
  have ih0 := corporalaw05_equal.mono_l k
  unfold corporalaw05_equal.f
  repeat' first
      | (with_reducible exact ih0 _ _ _ _)
      | (with_reducible exact LeO.refl _)
      | (with_reducible exact LeO.none _)
      | (with_reducible refine LeO.ite ?_ ?_)
      | (with_reducible refine LeO.bind ?_ (fun _ => ?_))
      | exact ih0 _ _ _ _
      | exact LeO.none _
      | refine LeO.ite ?_ ?_
      | refine LeO.bind ?_ (fun _ => ?_)
set_option maxHeartbeats 8000000 in
set_option maxRecDepth 100000 in
theorem corporalaw05_equal.calls (k : Nat) (A0 : Option Addr) (c0 : Nat) (l0 : List ByteArray) (A1 : Option Addr) (c1 : Nat) (l1 : List ByteArray) (r : Bool) (w : World) (hr0 : Kd.C Kd.string w A0 l0.length l0) (hc0 : l0.length ≤ c0) (hr1 : Kd.C Kd.string w A1 l1.length l1) (hc1 : l1.length ≤ c1) (h : corporalaw05_equal.f k l0 l1 = some r) :
    Calls Try.prog 14 #[.slice A0 l0.length c0, .slice A1 l1.length c1] w fun e w' => e = .returned (.bool r) ∧ Drawn0 w w' := by
  have HR0 := Aside0.mk hr0
  have HC0 := Aside0.mk hc0
  clear hr0 hc0
  have HR1 := Aside0.mk hr1
  have HC1 := Aside0.mk hc1
  clear hr1 hc1
  have H : (if (l0.length : Int) = (l1.length : Int) then (corporalaw05_equal.l0 k l0 l1 (l0.length : Int) 0) else (some false)) = some r := h
  clear h
  by_cases c3 : (l0.length : Int) = (l1.length : Int)
  · rw [if_pos c3] at H
    have c3b0 : ((l0.length : Int) == (l1.length : Int)) = true := beq_iff_eq.mpr c3
    have c3b1 : ((l0.length : Int) != (l1.length : Int)) = false := bne_eq_false_iff_eq.mpr c3
    have c3b2 : (l0.length == l1.length) = true := by first | simpa using c3 | (simp at c3 ⊢; omega)
    clear c3
    have H' := Aside0.mk H
    clear H
    go_enter Try.func14, Try.ntmps14
    go_wp2
    repeat (go_quiet (fail); try go_wp2)
    go_loopg [13] k (fun kq v13 w' => ∃ (x13_1 : Int), v13 = .int .i64 x13_1 ∧ Aside0 (corporalaw05_equal.l0 kq l0 l1 (l0.length : Int) x13_1 = some r) ∧ Aside0 (kq ≤ k) ∧ Drawn0 w w')
    case atStart => exact ⟨(0), (by first | rfl | (simp; done) | (simp [*]; done)), H', ⟨Nat.le_refl _⟩, by repeat (first | exact Drawn0.refl _ | apply Drawn0.step)⟩
    case round =>
      clear H'
      try clear c1
      try clear p2
      try clear c3
      try clear c3b0
      try clear c3b1
      try clear c3b2
      obtain ⟨x13_1, rfl, HA, HK1, ⟨m1, rfl⟩⟩ := hrel
      cases gk with
      | zero => exact absurd HA.out (by simp [corporalaw05_equal.l0])
      | succ k1 =>
        have H := HA.out
        clear HA
        simp only [corporalaw05_equal.l0] at H
        by_cases c4 : x13_1 < (l0.length : Int)
        · rw [if_pos c4] at H
          have c4b0 : decide (x13_1 < (l0.length : Int)) = true := decide_eq_true c4
          clear c4
          by_cases c5 : 0 ≤ x13_1
          · rw [if_pos c5] at H
            have c5b0 : decide (0 ≤ x13_1) = true := decide_eq_true c5
            clear c5
            by_cases c6 : x13_1 < (l0.length : Int)
            · rw [if_pos c6] at H
              have c6b0 : decide (x13_1 < (l0.length : Int)) = true := decide_eq_true c6
              clear c6
              by_cases c7 : x13_1 < (l1.length : Int)
              · rw [if_pos c7] at H
                have c7b0 : decide (x13_1 < (l1.length : Int)) = true := decide_eq_true c7
                clear c7
                by_cases c8 : (rdOf ByteArray.empty l0 x13_1).toList = (rdOf ByteArray.empty l1 x13_1).toList
                · rw [if_pos c8] at H
                  have c8b0 : ((rdOf ByteArray.empty l0 x13_1).toList == (rdOf ByteArray.empty l1 x13_1).toList) = true := beq_iff_eq.mpr c8
                  have c8b1 : ((rdOf ByteArray.empty l0 x13_1).toList != (rdOf ByteArray.empty l1 x13_1).toList) = false := bne_eq_false_iff_eq.mpr c8
                  clear c8
                  have H' := Aside0.mk H
                  clear H
                  have p127 : 0 ≤ (x13_1 : Int) := of_decide_eq_true (by first | (with_reducible assumption) | assumption)
                  have q127 : x13_1 < (l0.length : Int) := of_decide_eq_true (by first | (with_reducible assumption) | assumption)
                  obtain ⟨ad127, e127, hx127_0⟩ := Kd.at_string HR0.out x13_1 p127 q127
                  cases e127
                  replace p127 := eq_true p127
                  replace q127 := eq_true q127
                  have p128 : 0 ≤ (x13_1 : Int) := of_decide_eq_true (by first | (with_reducible assumption) | assumption)
                  have q128 : x13_1 < (l1.length : Int) := of_decide_eq_true (by first | (with_reducible assumption) | assumption)
                  obtain ⟨ad128, e128, hx128_0⟩ := Kd.at_string HR1.out x13_1 p128 q128
                  cases e128
                  replace p128 := eq_true p128
                  replace q128 := eq_true q128
                  go_wp2
                  repeat (go_quiet (fail); try go_wp2)
                  go_roundg k1
                  case measure => have := HK1.out; omega
                  case rel => exact ⟨(wrap64 (x13_1 + 1)), (by first | rfl | (simp; done) | (simp [*]; done)), H', ⟨by have := HK1.out; omega⟩, by repeat (first | exact Drawn0.refl _ | apply Drawn0.step)⟩
                · rw [if_neg c8] at H
                  have c8b0 : ((rdOf ByteArray.empty l0 x13_1).toList == (rdOf ByteArray.empty l1 x13_1).toList) = false := beq_eq_false_iff_ne.mpr c8
                  have c8b1 : ((rdOf ByteArray.empty l0 x13_1).toList != (rdOf ByteArray.empty l1 x13_1).toList) = true := bne_iff_ne.mpr c8
                  obtain rfl := Option.some.inj H
                  have p127 : 0 ≤ (x13_1 : Int) := of_decide_eq_true (by first | (with_reducible assumption) | assumption)
                  have q127 : x13_1 < (l0.length : Int) := of_decide_eq_true (by first | (with_reducible assumption) | assumption)
                  obtain ⟨ad127, e127, hx127_0⟩ := Kd.at_string HR0.out x13_1 p127 q127
                  cases e127
                  replace p127 := eq_true p127
                  replace q127 := eq_true q127
                  have p128 : 0 ≤ (x13_1 : Int) := of_decide_eq_true (by first | (with_reducible assumption) | assumption)
                  have q128 : x13_1 < (l1.length : Int) := of_decide_eq_true (by first | (with_reducible assumption) | assumption)
                  obtain ⟨ad128, e128, hx128_0⟩ := Kd.at_string HR1.out x13_1 p128 q128
                  cases e128
                  replace p128 := eq_true p128
                  replace q128 := eq_true q128
                  go_wp2
                  repeat (go_quiet (fail); try go_wp2)
                  go_ret
                  exact ⟨by first | rfl | (simp; done) | (simp [*]; done), by repeat (first | exact Drawn0.refl _ | apply Drawn0.step)⟩
              · rw [if_neg c7] at H
                exact absurd H (by simp)
            · rw [if_neg c6] at H
              exact absurd H (by simp)
          · rw [if_neg c5] at H
            exact absurd H (by simp)
        · rw [if_neg c4] at H
          have c4b0 : decide (x13_1 < (l0.length : Int)) = false := decide_eq_false c4
          clear c4
          obtain rfl := Option.some.inj H
          go_wp2
          repeat (go_quiet (fail); try go_wp2)
          go_ret
          exact ⟨by first | rfl | (simp; done) | (simp [*]; done), by repeat (first | exact Drawn0.refl _ | apply Drawn0.step)⟩
  · rw [if_neg c3] at H
    have c3b0 : ((l0.length : Int) == (l1.length : Int)) = false := beq_eq_false_iff_ne.mpr c3
    have c3b1 : ((l0.length : Int) != (l1.length : Int)) = true := bne_iff_ne.mpr c3
    have c3b2 : (l0.length == l1.length) = false := by first | simpa using c3 | (simp at c3 ⊢; omega)
    obtain rfl := Option.some.inj H
    go_enter Try.func14, Try.ntmps14
    go_wp2
    repeat (go_quiet (fail); try go_wp2)
    go_ret
    exact ⟨by first | rfl | (simp; done) | (simp [*]; done), by repeat (first | exact Drawn0.refl _ | apply Drawn0.step)⟩

end Go.Proofs.Ytcgglamgemgeiaa.Q
/- Shelf -/
namespace Go.Proofs.Ytcgglamgemgeiaa
open Go.Shelf
def Try.lays144_ren : Go.Shelf.Ren := ⟨fun | 144 => 28 | 143 => 38 | 219 => 42 | 217 => 44 | 225 => 45 | 224 => 46 | 267 => 47 | 266 => 48 | 314 => 49 | n => n, fun | 9 => 9 | 4 => 4 | 3 => 3 | 5 => 5 | 46 => 60 | 146 => 62 | 51 => 61 | n => n, fun | 1 => 0 | n => n⟩
theorem Try.lays144 : Go.Proofs.Lays.n144 Try.prog Try.lays144_ren := {
  mixed := by kernel_rfl
  f143 := Try.func38.trans (congrArg some (by kernel_rfl))
  f144 := Try.func28.trans (congrArg some (by kernel_rfl))
  f217 := Try.func44.trans (congrArg some (by kernel_rfl))
  f219 := Try.func42.trans (congrArg some (by kernel_rfl))
  f224 := Try.func46.trans (congrArg some (by kernel_rfl))
  f225 := Try.func45.trans (congrArg some (by kernel_rfl))
  f266 := Try.func48.trans (congrArg some (by kernel_rfl))
  f267 := Try.func47.trans (congrArg some (by kernel_rfl))
  f314 := Try.func49.trans (congrArg some (by kernel_rfl))
  t3 := Try.underlying3
  a3 := Try.isAgg3
  z3 := Try.sizeOf3
  v3 := Try.zeroValue3
  t4 := Try.underlying4
  a4 := Try.isAgg4
  z4 := Try.sizeOf4
  v4 := Try.zeroValue4
  t5 := Try.underlying5
  a5 := Try.isAgg5
  z5 := Try.sizeOf5
  v5 := Try.zeroValue5
  t9 := Try.underlying9
  a9 := Try.isAgg9
  z9 := Try.sizeOf9
  v9 := Try.zeroValue9
  t46 := Try.underlying60
  a46 := Try.isAgg60
  z46 := Try.sizeOf60
  v46 := Try.zeroValue60
  t51 := Try.underlying61
  a51 := Try.isAgg61
  z51 := Try.sizeOf61
  v51 := Try.zeroValue61
  t146 := Try.underlying62
  a146 := Try.isAgg62
  z146 := Try.sizeOf62
  v146 := Try.zeroValue62
  g1 := by kernel_rfl }
open Go.RowKit Go.Lib in
theorem Try.strings_Contains_one (s : ByteArray) (c : UInt8) (w : World) :
    Calls Try.prog 28 #[.string s, .string ⟨#[c]⟩] w fun e w' => e = .returned (.bool (decide (0 ≤ Lib.indexByte s.data.toList c))) ∧ w' = w := Any.strings_Contains_one Try.lays144 s c w
end Go.Proofs.Ytcgglamgemgeiaa
/- FStringsContains -/
namespace Go.Proofs.Ytcgglamgemgeiaa.Q
open Go.RowKit Go.Proofs.YtcgglamgemgeiaaW.PrintWords Go.Proofs.YtcgglamgemgeiaaW.PrintLast Go.Proofs.YtcgglamgemgeiaaW.PrintMore
attribute [local go_sem] max2_int min2_int max_two min_two max_three min_three max_four min_four   -- for this text's walks alone
set_option linter.unusedVariables false
set_option linter.unusedSimpArgs false

/-! ### strings_Contains: function 28 -/
/-- strings.Contains at one byte (only so is it called here), by the shelf's contract. -/
def strings_Contains.f (a0 : ByteArray) (a1 : ByteArray) : Option (Bool) := if a1.data = #[124] then some (decide (0 ≤ Lib.indexByte a0.data.toList 124)) else none
theorem strings_Contains.calls (a0 : ByteArray) (a1 : ByteArray) (r : Bool) (w : World) (h : strings_Contains.f a0 a1 = some r) :
    Calls Try.prog 28 #[.string a0, .string a1] w fun e w' => e = .returned (.bool r) ∧ Drawn0 w w' := by
  unfold strings_Contains.f at h
  by_cases e : a1.data = #[124]
  · rw [if_pos e] at h
    obtain rfl := Option.some.inj h
    obtain rfl : a1 = ⟨#[124]⟩ := by cases a1; simp at e; rw [e]
    refine (Try.strings_Contains_one a0 124 w).mono ?_
    rintro e w' ⟨rfl, rfl⟩
    exact ⟨rfl, 0, rfl⟩
  · rw [if_neg e] at h
    cases h

end Go.Proofs.Ytcgglamgemgeiaa.Q
/- Copy -/
namespace Go.Proofs.Ytcgglamgemgeiaa.Q
open Go.RowKit Go.Proofs.YtcgglamgemgeiaaW.PrintWords Go.Proofs.YtcgglamgemgeiaaW.PrintLast
/-- zs laid over ys from place o on. -/
def lay (ys : List ByteArray) : Nat → List ByteArray → List ByteArray
  | _, [] => ys
  | o, z :: zs => lay (ys.set o z) (o + 1) zs
theorem lay_length (zs : List ByteArray) : ∀ (ys : List ByteArray) (o : Nat), (lay ys o zs).length = ys.length := by
  induction zs with
  | nil => intro ys o; rfl
  | cons z zs ih => intro ys o; rw [lay, ih, List.length_set]
/-- What copy(y[i+1:], y[i:]) makes of y. -/
def insLay (ys : List ByteArray) (i : Int) : List ByteArray := lay ys (i.toNat + 1) ((ys.drop i.toNat).take (ys.length - (i.toNat + 1)))
theorem gb_trans {a b c : World} {g : Nat} (h : a.grownBy b (some g)) (k : b.grownBy c (some g)) : a.grownBy c (some g) :=
  ⟨k.os.trans h.os, k.tape.trans h.tape, k.output.trans h.output, Nat.le_trans h.size k.size, fun i hi hne => (k.block i (Nat.lt_of_lt_of_le hi h.size) hne).trans (h.block i hi hne)⟩
theorem R_lay {ok : Nat → Prop} {base g cap : Nat} (zs : List ByteArray) : ∀ (W : World) (ys : List ByteArray) (o : Nat), Kd.R Kd.string 9 W base ok (.slice (some ⟨g, 0, none⟩) ys.length cap) ys →
    Kd.R Kd.string 9 (W.setCells g o (zs.map Value.string)) base ok (.slice (some ⟨g, 0, none⟩) ys.length cap) (lay ys o zs) ∧ W.grownBy (W.setCells g o (zs.map Value.string)) (some g) := by
  induction zs with
  | nil => intro W ys o h; exact ⟨h, World.grownBy.refl _ _⟩
  | cons z zs ih =>
    intro W ys o h
    obtain ⟨h1, h2⟩ := Kd.R_put h (o : Int) z
    rw [Int.toNat_natCast] at h1 h2
    have h3 := ih (W.setCell ⟨g, o, none⟩ (.string z)) (ys.set o z) (o + 1) (by rw [List.length_set]; exact h1)
    rw [List.length_set] at h3
    exact ⟨h3.1, gb_trans h2 h3.2⟩
theorem copy_step {P : Program} {ops : Array Oper} {o : Oper} {a : Act} {W : World} {K : Act → World → Prop} {Q : Exit → Act → World → Prop} {E : Prop} (hgd : o.guard = none) (d s : Operand) (t : TypeId)
    (ho : o.op = .call { callee := .builtin .copy, args := #[d, s], argTypes := #[t, t] }) (hu : P.underlying t = some (.slice 9)) (hsz : (P.info? 9).map (·.size) = some 1)
    {ok : Nat → Prop} {base g cap : Nat} {ys : List ByteArray} (HO : Kd.R Kd.string 9 W base ok (.slice (some ⟨g, 0, none⟩) ys.length cap) ys)
    (i j : Nat) (dp sp : Option Addr) (dLen dCap sLen sCap : Nat) (hd : a.eval d = .slice dp dLen dCap) (hs : a.eval s = .slice sp sLen sCap)
    (zs : List ByteArray) (hz : zs = (ys.drop i).take dLen) (hn : zs.length = Nat.min sLen dLen) (hfit : j + zs.length ≤ ys.length)
    (hpos : 0 < zs.length → dp = some ⟨g, j, none⟩ ∧ sp = some ⟨g, i, none⟩)
    (h : ∀ w', Kd.R Kd.string 9 w' base ok (.slice (some ⟨g, 0, none⟩) ys.length cap) (lay ys j zs) → W.grownBy w' (some g) → K (a.put o.dst (goInt zs.length)) w') :
    if Region.wanted o (yielded ops a.tmps) = true then Oper.wp P o a W K Q else E := by
  have hw : Region.wanted o (yielded ops a.tmps) = true := by simp [Region.wanted, hgd]
  rw [if_pos hw]
  by_cases h0 : zs.length = 0
  · have hrun := run_copy_none (P := P) W t t o.type 9 dp sp dLen dCap sLen sCap hu hsz (by rw [← hn]; exact h0)
    have hr := h W (by rw [List.eq_nil_of_length_eq_zero h0]; exact HO) (World.grownBy.refl _ _)
    rw [h0] at hr
    unfold Oper.wp
    simp [execOp, ho, resolve, invoke, builtin, hd, hs, hrun, Result.andThen]
    exact hr
  · obtain ⟨rfl, rfl⟩ := hpos (by omega)
    have hg : ∃ cur, W.heap[g]? = some (.cells cur 9 (0, 0)) ∧ ys.length ≤ cur.size ∧ ∀ k, k < ys.length → W.cell? ⟨g, k, none⟩ = some (.string (ys.getD k ByteArray.empty)) := by
      obtain ⟨inner, hown⟩ := Kd.R_own HO
      obtain ⟨hl, hv | ⟨g', cap', cur, hv, hb, hh, hc1, hc2, hc3, hc4⟩⟩ := hown
      · cases hv.1
      · injection hv with hv1 hv2 hv3
        injection hv1 with hv1
        injection hv1 with hv1
        subst hv1
        refine ⟨cur, hh, by rw [hc3]; show ys.length ≤ cap' * 1; omega, fun k hk => ?_⟩
        obtain ⟨ad, e, hx⟩ := Kd.at_string (Kd.R_reads' HO).2.2 (k : Int) (by omega) (by omega)
        injection e with e
        subst e
        rw [Int.toNat_natCast] at hx
        have ea : (⟨g, 0, none⟩ : Addr).add k = ⟨g, k, none⟩ := by
          by_cases h0 : k = 0 <;> simp [Addr.add, h0]
        rw [ea] at hx
        rw [hx]; unfold rdOf; rw [Int.toNat_natCast]
    obtain ⟨cur, hh, hcs, hcell⟩ := hg
    have hzl : ∀ k, k < zs.length → i + k < ys.length := fun k hk => by
      have : zs.length ≤ (ys.drop i).length := by rw [hz, List.length_take]; exact Nat.min_le_right _ _
      rw [List.length_drop] at this; omega
    have hsrc : ∀ k v, (zs.map Value.string)[k]? = some v → W.cell? ((⟨g, i, none⟩ : Addr).add k) = some v := by
      intro k v hk
      have hkl : k < zs.length := by have := (List.getElem?_eq_some_iff.1 hk).1; simpa using this
      have ea : (⟨g, i, none⟩ : Addr).add k = ⟨g, i + k, none⟩ := by
        by_cases h0 : k = 0 <;> simp [Addr.add, h0]
      rw [ea, hcell (i + k) (hzl k hkl)]
      rw [List.getElem?_map] at hk
      have e1 : zs[k]? = (ys)[i + k]? := by
        rw [hz, List.getElem?_take, List.getElem?_drop, if_pos]
        have : zs.length ≤ dLen := by rw [hz, List.length_take]; exact Nat.min_le_left _ _
        omega
      rw [e1] at hk
      rw [List.getD_eq_getElem?_getD]
      cases hq : ys[i + k]? with
      | none => rw [hq] at hk; cases hk
      | some q => rw [hq] at hk; simpa using hk
    have hrun := run_copy_cells (P := P) W t t o.type 9 g j dLen dCap ⟨g, i, none⟩ sLen sCap (zs.map Value.string) hu hsz (by rw [List.length_map]; exact hn) hsrc
      (fun k hk => by rw [hcell (j + k) (by rw [List.length_map] at hk; omega)]; rfl)
      (fun k hk => by simp [World.frozen?, hh]) (fun v hv => by obtain ⟨z, _, rfl⟩ := List.mem_map.1 hv; rfl)
    obtain ⟨r1, r2⟩ := R_lay zs W ys j HO
    have hr := h _ r1 r2
    rw [List.length_map] at hrun
    unfold Oper.wp
    simp [execOp, ho, resolve, invoke, builtin, hd, hs, hrun, Result.andThen]
    exact hr
theorem own_at {ok : Nat → Prop} {base n c : Nat} {W : World} {A : Option Addr} {xs : List ByteArray} (h : Kd.R Kd.string 9 W base ok (.slice A n c) xs) (h0 : 0 < xs.length) : ∃ g, A = some ⟨g, 0, none⟩ := by
  obtain ⟨inner, hown⟩ := Kd.R_own h
  obtain ⟨hl, hv | ⟨g', cap', cur, hv, _⟩⟩ := hown
  · have h1 := hv.1
    have h2 := hv.2
    omega
  · injection hv with hv1 _ _
    exact ⟨g', hv1⟩
end Go.Proofs.Ytcgglamgemgeiaa.Q
/- Short -/
namespace Go.Proofs.Ytcgglamgemgeiaa.Q
open Go.RowKit Go.Proofs.YtcgglamgemgeiaaW.PrintWords Go.Proofs.YtcgglamgemgeiaaW.PrintLast
set_option linter.unusedVariables false
section
variable {P : Program} {ops : Array Oper} {Q : Exit → Act → World → Prop} {md : Region.Mode} {S : World → Prop} {ds : List Nat} {T : Bool × List (List Nat × List Nat)}
/-- A wanted operation that yields in every world. -/
theorem pw_ (i : Nat) (N : Tmp) {oi : Oper} {v : Value} {fuel : Nat} {l l' : Array Bool} {a a' : Act} {w : World} (HT_ : rtab md ops = T)
    (hl : l.setIfInBounds i true = l' := by simp only [List.setIfInBounds_toArray, List.set_cons_zero, List.set_cons_succ]; rfl)
    (hi : ops[i]? = some oi := by rfl) (hN : oi.dst = some N := by rfl) (hc : anyT T l.toList l'.toList i = true := by kernel_rfl)
    (hQ : ∀ c a w, Q (.panic c) (a.put oi.dst v) w → Q (.panic c) a w := by exact fun _ _ _ h => h) (hw : Region.wanted oi (yielded ops a.tmps) = true := by rfl)
    (hy : ∀ w', (execOp a.eval oi).run P w' = .ok (.value v) w' := by intro w'; go_simp; with_reducible rfl)
    (ha : a.put (some N) v = a' := by simp only [Act.put, List.setIfInBounds_toArray, List.set_cons_zero, List.set_cons_succ, i64_w, i32_w]; rfl)
    (h : wpAnyLast P md ops Q S ds fuel l' a' w) : wpAnyLast P md ops Q S ds (fuel + 1) l a w :=
  pure_ l' hi hN (any_of HT_ hc) hQ (Or.inl ⟨hw, hy⟩) ha h
/-- An operation that is not wanted. -/
theorem pn_ (i : Nat) (N : Tmp) {oi : Oper} {fuel : Nat} {l l' : Array Bool} {a a' : Act} {w : World} (HT_ : rtab md ops = T)
    (hl : l.setIfInBounds i true = l' := by simp only [List.setIfInBounds_toArray, List.set_cons_zero, List.set_cons_succ]; rfl)
    (hi : ops[i]? = some oi := by rfl) (hN : oi.dst = some N := by rfl) (hc : anyT T l.toList l'.toList i = true := by kernel_rfl)
    (hQ : ∀ c a w, Q (.panic c) (a.put oi.dst undef) w → Q (.panic c) a w := by exact fun _ _ _ h => h) (hw : Region.wanted oi (yielded ops a.tmps) = false := by rfl)
    (ha : a.put (some N) undef = a' := by simp only [Act.put, List.setIfInBounds_toArray, List.set_cons_zero, List.set_cons_succ, i64_w, i32_w]; rfl)
    (h : wpAnyLast P md ops Q S ds fuel l' a' w) : wpAnyLast P md ops Q S ds (fuel + 1) l a w :=
  pure_ l' hi hN (any_of HT_ hc) hQ (Or.inr ⟨hw, rfl⟩) ha h
end
end Go.Proofs.Ytcgglamgemgeiaa.Q
