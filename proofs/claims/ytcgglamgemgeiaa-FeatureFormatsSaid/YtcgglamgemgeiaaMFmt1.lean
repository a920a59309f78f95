/- The law FeatureFormats holds of every list of strings: feature.Format and the reference's Format give the same text, or the same error; no condition. (Part 1.) -/
import Derived.Test.YtcgglamgemgeiaaProg
import Derived.Below
import Derived.Deep.Draws
import Derived.Deep.AppendLies
import Derived.Maps.AppendAt
import Derived.OwnWalk
import Derived.Laws.BytesArg
import Derived.Laws.MakeOwn
import Derived.Laws.OwnMore
import Derived.Deep.OwnRows
import Derived.Tactics
import Derived.Lib.ConvBytes
import Derived.Laws.Slices
import Derived.WalkKit
import Derived.KernelRfl
import Derived.RowKit3
import Derived.Deep.LoopGhost
import Derived.Deep.QuietTactic
import Derived.BigQuiet
import Derived.WideLaws
import Derived.Deep.DeepCutAuto
import Derived.Deep.CutBlock
import Derived.Deep.RegionHeld3
import Derived.Laws.Rows
import Derived.Lib.AppendStr
import Derived.ArgAppend
import Derived.Laws.IdiomCopy
import Derived.OrdersHeld
import Derived.Laws.BitsLemmas
import Derived.RowKit
import Derived.Test.YtcgglamgemgeiaaWWords
import Derived.Test.YtcgglamgemgeiaaWLast
import Derived.Test.YtcgglamgemgeiaaWTab
import Derived.Test.YtcgglamgemgeiaaWFour
import Derived.Test.YtcgglamgemgeiaaWQPut
import Derived.Test.YtcgglamgemgeiaaWApart
import Derived.Test.YtcgglamgemgeiaaWArr
import Derived.Test.YtcgglamgemgeiaaWZeros
import Derived.Test.YtcgglamgemgeiaaWFoot
import Derived.Test.YtcgglamgemgeiaaWKept
import Derived.Test.YtcgglamgemgeiaaWShare
import Derived.Test.YtcgglamgemgeiaaWN
import Derived.Test.YtcgglamgemgeiaaWFootNe
import Derived.Test.YtcgglamgemgeiaaWAt
import Derived.Test.YtcgglamgemgeiaaWEqStruct
import Derived.Test.YtcgglamgemgeiaaWRepsOne
import Derived.Test.YtcgglamgemgeiaaWInv
import Derived.Test.YtcgglamgemgeiaaWInvWords
import Derived.Test.YtcgglamgemgeiaaWGuard
import Derived.Test.YtcgglamgemgeiaaWNEv
import Derived.Test.YtcgglamgemgeiaaWMore
import Derived.Laws.Cover1
import Derived.Lib.ValidLaws
import Derived.RangeFuncNested
import Derived.RangeFuncBound
import Derived.RangeFuncCalls
import Derived.RangeFuncLeaves
import Derived.Shelf.Abstract
import Derived.Shelf.RegionOpen
import Derived.OwnWalkIn
import Derived.TacticsInMore
import Derived.LoopNIn
import Derived.LoopIn
import Derived.Laws.RangeAny
import Derived.LoopTactic
import Derived.Shelf.Strings.Search1
import Derived.Shelf.Strings.Search3
set_option linter.unusedVariables false
set_option linter.unusedSimpArgs false
set_option linter.unusedSectionVars false
/- QBase -/
namespace Go.Proofs.Ytcgglamgemgeiaa.Q
open Go.RowKit Go.Proofs.YtcgglamgemgeiaaW.PrintWords Go.Proofs.YtcgglamgemgeiaaW.PrintLast Go.Proofs.YtcgglamgemgeiaaW.PrintMore
attribute [local go_sem] max2_int min2_int max_two min_two max_three min_three max_four min_four   -- for this text's walks alone
set_option linter.unusedVariables false
set_option linter.unusedSimpArgs false



def errW : Option Int → Value
  | none => .nilIface
  | some c => .iface 0 (.int .i64 c)
theorem errW_none : errW none = .nilIface := rfl
theorem errW_some (c : Int) : errW (some c) = .iface 0 (.int .i64 c) := rfl

theorem info5 : (Try.prog.info? 5).map (fun i => (i.zero, i.size, i.bytes)) = some (some (.int .u8 0), 1, 1) := by kernel_rfl
theorem info9 : (Try.prog.info? 9).map (fun i => (i.zero, i.size, i.bytes)) = some (some (.string ⟨#[]⟩), 1, 16) := by kernel_rfl
theorem info23 : (Try.prog.info? 23).map (fun i => (i.zero, i.size, i.bytes)) = some (some (.slice none 0 0), 1, 24) := by kernel_rfl
-- the values' own types
def rd_L1 (xs : List (List ByteArray)) (i : Int) : (List ByteArray) := xs.getD i.toNat ([] : List ByteArray)
theorem at_L1 {w : World} {A : Option Addr} {n : Nat} {xs : List (List ByteArray)} (h : Kd.C (Kd.slice 9 Kd.string) w A n xs) (i : Int) (h0 : 0 ≤ i) (h1 : i < n) : ∃ ad A0 c0, A = some ad ∧ w.cell? (ad.add i.toNat) = some (.slice A0 (rd_L1 xs i).length c0) ∧ (rd_L1 xs i).length ≤ c0 ∧ Kd.string.C w A0 (rd_L1 xs i).length (rd_L1 xs i) := by
  obtain ⟨ad, c, e, _, hK, hc0⟩ := Kd.C_get h ([] : List ByteArray) i h0 h1
  have hc : ∀ j u, c[j]? = some u → w.cell? (ad.add (i.toNat * 1 + j)) = some u := hc0
  obtain ⟨A0, c0, rfl, l0, g0⟩ := hK
  exact ⟨ad, A0, c0, e, by have hq := hc 0 _ rfl; rwa [Nat.mul_one, Nat.add_zero] at hq, l0, g0⟩

end Go.Proofs.Ytcgglamgemgeiaa.Q
/- FCorporalaw05Long -/
namespace Go.Proofs.Ytcgglamgemgeiaa.Q
open Go.RowKit Go.Proofs.YtcgglamgemgeiaaW.PrintWords Go.Proofs.YtcgglamgemgeiaaW.PrintLast Go.Proofs.YtcgglamgemgeiaaW.PrintMore
attribute [local go_sem] max2_int min2_int max_two min_two max_three min_three max_four min_four   -- for this text's walks alone
set_option linter.unusedVariables false
set_option linter.unusedSimpArgs false

/-! ### corporalaw05_long: function 11 -/
def corporalaw05_long.l0 : Nat → List ByteArray → List ByteArray → Int → Int → Option (Bool)
  | 0, _, _, _, _ => none
  | k + 1, x0, x5, x6, x7 => if x7 < x6 then (if 0 ≤ x7 then (if x7 < (x5.length : Int) then (if ((rdOf ByteArray.empty x5 x7).size : Int) > 300 then (some true) else (corporalaw05_long.l0 k x0 x5 x6 (wrap64 (x7 + 1)))) else (none)) else (none)) else (some (decide ((x0.length : Int) > 40)))
def corporalaw05_long.f (k : Nat) (l0 : List ByteArray) : Option (Bool) := corporalaw05_long.l0 k l0 l0 (l0.length : Int) 0
theorem corporalaw05_long.mono_l : ∀ k, (∀ y0 y1 y2 y3, LeO (corporalaw05_long.l0 k y0 y1 y2 y3) (corporalaw05_long.l0 (k + 1) y0 y1 y2 y3))
  | 0 => fun _ _ _ _ r h => by simp [corporalaw05_long.l0] at h
  | k + 1 => by
    have ih0 := corporalaw05_long.mono_l k
    · intro y0 y1 y2 y3
      unfold corporalaw05_long.l0
      repeat' first
      | (with_reducible exact ih0 _ _ _ _)
      | (with_reducible exact LeO.refl _)
      | (with_reducible exact LeO.none _)
      | (with_reducible refine LeO.ite ?_ ?_)
      | (with_reducible refine LeO.bind ?_ (fun _ => ?_))
      | exact ih0 _ _ _ _
      | exact LeO.none _
      | refine LeO.ite ?_ ?_
      | refine LeO.bind ?_ (fun _ => ?_)
theorem corporalaw05_long.mono : ∀ a0 k, LeO (corporalaw05_long.f k a0) (corporalaw05_long.f (k + 1) a0) := by
  intro a0 k
  have ih0 := corporalaw05_long.mono_l k
  unfold corporalaw05_long.f
  repeat' first
      | (with_reducible exact ih0 _ _ _ _)
      | (with_reducible exact LeO.refl _)
      | (with_reducible exact LeO.none _)
      | (with_reducible refine LeO.ite ?_ ?_)
      | (with_reducible refine LeO.bind ?_ (fun _ => ?_))
      | exact ih0 _ _ _ _
      | exact LeO.none _
      | refine LeO.ite ?_ ?_
      | refine LeO.bind ?_ (fun _ => ?_)
set_option maxHeartbeats 8000000 in
set_option maxRecDepth 100000 in
theorem corporalaw05_long.calls (k : Nat) (A0 : Option Addr) (c0 : Nat) (l0 : List ByteArray) (r : Bool) (w : World) (hr0 : Kd.C Kd.string w A0 l0.length l0) (hc0 : l0.length ≤ c0) (h : corporalaw05_long.f k l0 = some r) :
    Calls Try.prog 11 #[.slice A0 l0.length c0] w fun e w' => e = .returned (.bool r) ∧ Drawn0 w w' := by
  have HR0 := Aside0.mk hr0
  have HC0 := Aside0.mk hc0
  clear hr0 hc0
  have H : (corporalaw05_long.l0 k l0 l0 (l0.length : Int) 0) = some r := h
  clear h
  have H' := Aside0.mk H
  clear H
  go_enter Try.func11, Try.ntmps11
  go_wp2
  go_loopg [7] k (fun kq v7 w' => ∃ (x7_1 : Int), v7 = .int .i64 x7_1 ∧ Aside0 (corporalaw05_long.l0 kq l0 l0 (l0.length : Int) x7_1 = some r) ∧ Aside0 (kq ≤ k) ∧ Drawn0 w w')
  case atStart => exact ⟨(0), (by first | rfl | (simp; done) | (simp [*]; done)), H', ⟨Nat.le_refl _⟩, by repeat (first | exact Drawn0.refl _ | apply Drawn0.step)⟩
  case round =>
    clear H'
    try clear c1
    obtain ⟨x7_1, rfl, HA, HK1, ⟨m1, rfl⟩⟩ := hrel
    cases gk with
    | zero => exact absurd HA.out (by simp [corporalaw05_long.l0])
    | succ k1 =>
      have H := HA.out
      clear HA
      simp only [corporalaw05_long.l0] at H
      by_cases c2 : x7_1 < (l0.length : Int)
      · rw [if_pos c2] at H
        have c2b0 : decide (x7_1 < (l0.length : Int)) = true := decide_eq_true c2
        clear c2
        by_cases c3 : 0 ≤ x7_1
        · rw [if_pos c3] at H
          have c3b0 : decide (0 ≤ x7_1) = true := decide_eq_true c3
          clear c3
          by_cases c4 : x7_1 < (l0.length : Int)
          · rw [if_pos c4] at H
            have c4b0 : decide (x7_1 < (l0.length : Int)) = true := decide_eq_true c4
            clear c4
            by_cases c5 : ((rdOf ByteArray.empty l0 x7_1).size : Int) > 300
            · rw [if_pos c5] at H
              have c5b0 : decide (300 < ((rdOf ByteArray.empty l0 x7_1).size : Int)) = true := decide_eq_true c5
              have c5b1 : decide (300 < (rdOf ByteArray.empty l0 x7_1).size) = true := decide_eq_true (by omega)
              clear c5
              obtain rfl := Option.some.inj H
              have p101 : 0 ≤ (x7_1 : Int) := of_decide_eq_true (by first | (with_reducible assumption) | assumption)
              have q101 : x7_1 < (l0.length : Int) := of_decide_eq_true (by first | (with_reducible assumption) | assumption)
              obtain ⟨ad101, e101, hx101_0⟩ := Kd.at_string HR0.out x7_1 p101 q101
              cases e101
              replace p101 := eq_true p101
              replace q101 := eq_true q101
              go_wp2
              go_ret
              exact ⟨by first | rfl | (simp; done) | (simp [*]; done), by repeat (first | exact Drawn0.refl _ | apply Drawn0.step)⟩
            · rw [if_neg c5] at H
              have c5b0 : decide (300 < ((rdOf ByteArray.empty l0 x7_1).size : Int)) = false := decide_eq_false c5
              have c5b1 : decide (300 < (rdOf ByteArray.empty l0 x7_1).size) = false := decide_eq_false (by omega)
              clear c5
              have H' := Aside0.mk H
              clear H
              have p101 : 0 ≤ (x7_1 : Int) := of_decide_eq_true (by first | (with_reducible assumption) | assumption)
              have q101 : x7_1 < (l0.length : Int) := of_decide_eq_true (by first | (with_reducible assumption) | assumption)
              obtain ⟨ad101, e101, hx101_0⟩ := Kd.at_string HR0.out x7_1 p101 q101
              cases e101
              replace p101 := eq_true p101
              replace q101 := eq_true q101
              go_wp2
              go_roundg k1
              case measure => have := HK1.out; omega
              case rel => exact ⟨(wrap64 (x7_1 + 1)), (by first | rfl | (simp; done) | (simp [*]; done)), H', ⟨by have := HK1.out; omega⟩, by repeat (first | exact Drawn0.refl _ | apply Drawn0.step)⟩
          · rw [if_neg c4] at H
            exact absurd H (by simp)
        · rw [if_neg c3] at H
          exact absurd H (by simp)
      · rw [if_neg c2] at H
        have c2b0 : decide (x7_1 < (l0.length : Int)) = false := decide_eq_false c2
        clear c2
        obtain rfl := Option.some.inj H
        go_wp2
        go_ret
        exact ⟨by first | rfl | (simp; done) | (simp [*]; done), by repeat (first | exact Drawn0.refl _ | apply Drawn0.step)⟩

end Go.Proofs.Ytcgglamgemgeiaa.Q
/- Utf -/
namespace Go.Proofs.Ytcgglamgemgeiaa.Q
open Go.Lib
theorem decodeN_cut (n n' b0 b1 b2 b3 c1 c2 c3 : Nat) (hn : 1 ≤ n) (hnn : n < n') (e1 : 1 < n → c1 = b1) (e2 : 2 < n → c2 = b2) (e3 : 3 < n → c3 = b3)
    (f1 : n = 1 → c1 / 64 ≠ 2) (f2 : n = 2 → c2 / 64 ≠ 2) (f3 : n = 3 → c3 / 64 ≠ 2) : decodeN n' b0 c1 c2 c3 = decodeN n b0 b1 b2 b3 := by
  have k1 : (1 < n' ∧ c1 / 64 = 2) = (1 < n ∧ b1 / 64 = 2) := propext ⟨fun h => by
      rcases Nat.lt_or_ge 1 n with h1 | h1
      · exact ⟨h1, by rw [← e1 h1]; exact h.2⟩
      · exact absurd h.2 (f1 (by omega)), fun h => ⟨by omega, by rw [e1 h.1]; exact h.2⟩⟩
  have k2 : ((1 < n ∧ b1 / 64 = 2) ∧ (2 < n' ∧ c2 / 64 = 2)) = ((1 < n ∧ b1 / 64 = 2) ∧ (2 < n ∧ b2 / 64 = 2)) := propext ⟨fun h => ⟨h.1, by
      rcases Nat.lt_or_ge 2 n with h1 | h1
      · exact ⟨h1, by rw [← e2 h1]; exact h.2.2⟩
      · exact absurd h.2.2 (f2 (by omega))⟩, fun h => ⟨h.1, by omega, by rw [e2 h.2.1]; exact h.2.2⟩⟩
  have k3 : ((1 < n ∧ b1 / 64 = 2) ∧ (2 < n ∧ b2 / 64 = 2) ∧ (3 < n' ∧ c3 / 64 = 2)) = ((1 < n ∧ b1 / 64 = 2) ∧ (2 < n ∧ b2 / 64 = 2) ∧ (3 < n ∧ b3 / 64 = 2)) := propext ⟨fun h => ⟨h.1, h.2.1, by
      rcases Nat.lt_or_ge 3 n with h1 | h1
      · exact ⟨h1, by rw [← e3 h1]; exact h.2.2.2⟩
      · exact absurd h.2.2.2 (f3 (by omega))⟩, fun h => ⟨h.1, h.2.1, by omega, by rw [e3 h.2.2.1]; exact h.2.2.2⟩⟩
  unfold decodeN
  by_cases h1 : 1 < n ∧ b1 / 64 = 2
  · have g1 := e1 h1.1
    subst g1
    have h1' : 1 < n' ∧ c1 / 64 = 2 := ⟨by omega, h1.2⟩
    by_cases h2 : 2 < n ∧ b2 / 64 = 2
    · have g2 := e2 h2.1
      subst g2
      have h2' : 2 < n' ∧ c2 / 64 = 2 := ⟨by omega, h2.2⟩
      by_cases h3 : 3 < n ∧ b3 / 64 = 2
      · have g3 := e3 h3.1
        subst g3
        have h3' : 3 < n' ∧ c3 / 64 = 2 := ⟨by omega, h3.2⟩
        simp only [h1, h1', h2, h2', h3, h3']
      · have h3' : ¬ (3 < n' ∧ c3 / 64 = 2) := fun h => h3 (k3.mp ⟨h1, h2, h⟩).2.2
        simp only [h1, h1', h2, h2', h3, h3', and_false, if_false]
    · have h2' : ¬ (2 < n' ∧ c2 / 64 = 2) := fun h => h2 (k2.mp ⟨h1, h⟩).2
      simp only [h1, h1', h2, h2', false_and, and_false, if_false]
  · have h1' : ¬ (1 < n' ∧ c1 / 64 = 2) := fun h => h1 (k1.mp h)
    simp only [h1, h1', false_and, and_false, if_false]
theorem decodeN_width_le (n b0 b1 b2 b3 : Nat) (hn : 1 ≤ n) : (decodeN n b0 b1 b2 b3).2 ≤ n := by
  unfold decodeN
  repeat' split
  all_goals (simp only; omega)
theorem getD_app_lt (l m : List UInt8) (k : Nat) (h : k < l.length) : (l ++ m).getD k 0 = l.getD k 0 := by
  simp [List.getD, List.getElem?_append_left h]
theorem getD_app_eq (l t : List UInt8) (b : UInt8) (k : Nat) (h : l.length = k) : (l ++ b :: t).getD k 0 = b := by
  subst h; simp [List.getD]
theorem decodeL_cut (l t : List UInt8) (b : UInt8) (hb : b.toNat < 128) (hl : l ≠ []) : decodeL (l ++ b :: t) = decodeL l := by
  have h1 : 1 ≤ l.length := List.length_pos_iff.2 hl
  rw [decodeL_N, decodeL_N, getD_app_lt l _ 0 h1]
  refine decodeN_cut l.length _ _ _ _ _ _ _ _ h1 (by simp) (fun h => by rw [getD_app_lt l _ 1 h]) (fun h => by rw [getD_app_lt l _ 2 h]) (fun h => by rw [getD_app_lt l _ 3 h]) (fun h => ?_) (fun h => ?_) (fun h => ?_)
  all_goals rw [getD_app_eq l t b _ h]; omega
theorem decodeL_width_le (l : List UInt8) (hl : l ≠ []) : (decodeL l).2 ≤ l.length := by
  rw [decodeL_N]; exact decodeN_width_le _ _ _ _ _ (List.length_pos_iff.2 hl)
/-- Cut at a byte below 128: both parts are valid exactly if the whole is. -/
theorem validD_cut (t : List UInt8) (b : UInt8) (hb : b.toNat < 128) : ∀ (n : Nat) (l : List UInt8), l.length ≤ n → validD (l ++ b :: t) = (validD l && validD t) := by
  intro n
  induction n with
  | zero =>
    intro l hl
    obtain rfl : l = [] := List.eq_nil_of_length_eq_zero (by omega)
    rw [List.nil_append, validD_cons b t hb, validD_nil, Bool.true_and]
  | succ n ih =>
    intro l hl
    by_cases hne : l = []
    · subst hne
      rw [List.nil_append, validD_cons b t hb, validD_nil, Bool.true_and]
    · have hw := decodeL_width_le l hne
      have hw1 := decodeL_width l
      rw [validD_step _ (by simp), validD_step l hne, decodeL_cut l t b hb hne]
      by_cases hc : (decodeL l).1 = 65533 ∧ (decodeL l).2 = 1
      · rw [if_pos hc, if_pos hc, Bool.false_and]
      · rw [if_neg hc, if_neg hc, List.drop_append_of_le_length hw]
        exact ih _ (by rw [List.length_drop]; omega)
/-- A byte that no value contains. -/
def badB (b : UInt8) : Bool := decide (b.toNat ≤ 31) || decide (b.toNat = 127)
/-- The reason why a string is not a value; 0: it is one. -/
def vv (s : ByteArray) : Int := if 120 < s.size then 2 else if validD s.data.toList = false then 7 else if s.data.toList.any badB = true then 14 else 0
/-- What holds of the first unit. -/
theorem decodeN_unit (n b0 b1 b2 b3 : Nat) (hn : 1 ≤ n) (h : ¬ ((decodeN n b0 b1 b2 b3).1 = 65533 ∧ (decodeN n b0 b1 b2 b3).2 = 1)) :
    (b0 < 128 ∧ decodeN n b0 b1 b2 b3 = (b0, 1)) ∨ (128 ≤ b0 ∧ 128 ≤ (decodeN n b0 b1 b2 b3).1 ∧ (decodeN n b0 b1 b2 b3).2 ≤ 4 ∧ (1 < (decodeN n b0 b1 b2 b3).2 → 128 ≤ b1) ∧ (2 < (decodeN n b0 b1 b2 b3).2 → 128 ≤ b2) ∧ (3 < (decodeN n b0 b1 b2 b3).2 → 128 ≤ b3)) := by
  unfold decodeN at h ⊢
  repeat' split at h
  all_goals first | (exfalso; exact h ⟨rfl, rfl⟩) | skip
  · rename_i h0
    left
    simp [h0]
  all_goals (have hb_ : ¬ b0 < 128 := by assumption
             rw [if_neg hb_]
             right
             simp_all
             omega)
theorem any_unit (l : List UInt8) (hne : l ≠ []) (h : ¬ ((decodeL l).1 = 65533 ∧ (decodeL l).2 = 1)) :
    l.any badB = ((decide ((decodeL l).1 ≤ 31) || decide ((decodeL l).1 = 127)) || (l.drop (decodeL l).2).any badB) := by
  have h1 : 1 ≤ l.length := List.length_pos_iff.2 hne
  have hw := decodeL_width_le l hne
  have hw1 := decodeL_width l
  have e : l.any badB = ((l.take (decodeL l).2).any badB || (l.drop (decodeL l).2).any badB) := by
    rw [← List.any_append, List.take_append_drop]
  rw [e]
  congr 1
  rw [decodeL_N] at h hw hw1 ⊢
  rcases decodeN_unit _ _ _ _ _ h1 h with ⟨h2, h3⟩ | ⟨h0, hr, h4, k1, k2, k3⟩
  · rw [h3]
    cases l with
    | nil => exact absurd rfl hne
    | cons b t => simp [badB]
  · have : ∀ x ∈ l.take (decodeN l.length (l.getD 0 0).toNat (l.getD 1 0).toNat (l.getD 2 0).toNat (l.getD 3 0).toNat).2, 128 ≤ x.toNat := by
      intro x hx
      obtain ⟨i, hi, rfl⟩ := List.mem_iff_getElem.1 hx
      rw [List.length_take] at hi
      rw [List.getElem_take]
      have hil : i < l.length := by omega
      have eg : l[i] = l.getD i 0 := by simp [List.getD, hil]
      rw [eg]
      match i, hi with
      | 0, _ => exact h0
      | 1, hi => exact k1 (by omega)
      | 2, hi => exact k2 (by omega)
      | 3, hi => exact k3 (by omega)
      | i + 4, hi => omega
    have hf : (l.take (decodeN l.length (l.getD 0 0).toNat (l.getD 1 0).toNat (l.getD 2 0).toNat (l.getD 3 0).toNat).2).any badB = false := by
      rw [List.any_eq_false]
      intro x hx
      have := this x hx
      unfold badB
      simp
      omega
    rw [hf, decide_eq_false (by omega), decide_eq_false (by omega)]
    rfl
end Go.Proofs.Ytcgglamgemgeiaa.Q
/- Units -/
namespace Go.Proofs.Ytcgglamgemgeiaa.Q
open Go.RowKit Go.Shelf Go.Lib Go.Proofs.YtcgglamgemgeiaaW.PrintWords
attribute [local go_sem] Oper.semAt_some
/-- A step of a string's iterator, in whatever world. -/
theorem run_next_at {P : Program} (W : World) (b : Nat) (s : ByteArray) (pos : Nat) (ty : TypeId) (hW : W.heap[b]? = some (.stringIter s pos)) (h : pos < s.size) :
    (Instr.next (.pointer (some ⟨b, 0, none⟩)) true ty).run P W = .ok (.tuple #[.bool true, .int .i64 pos, .int .i32 (Utf8.decode s pos).1]) (W.putObj b (.stringIter s (pos + (Utf8.decode s pos).2))) := by
  simp only [Instr.next, getObj, setObj, Sem.run_bind, Sem.run, hW, Result.andThen, h, if_true]
  simp [goInt, World.putObj]
theorem run_next_over {P : Program} (W : World) (b : Nat) (s : ByteArray) (pos : Nat) (ty : TypeId) (hW : W.heap[b]? = some (.stringIter s pos)) (h : ¬ pos < s.size) :
    (Instr.next (.pointer (some ⟨b, 0, none⟩)) true ty).run P W = .ok (.tuple #[.bool false]) W := by
  simp [Instr.next, getObj, Sem.run, hW, h]
theorem width_le (s : ByteArray) (pos : Nat) (h : pos < s.size) : pos + (Utf8.decode s pos).2 ≤ s.size := by
  have := decodeN_width_le (s.size - pos) (s.get! pos).toNat (s.get! (pos + 1)).toNat (s.get! (pos + 2)).toNat (s.get! (pos + 3)).toNat (by omega)
  rw [decode_at]
  omega
/-- The unit at a place, as the program's struct. -/
def unitV (s : ByteArray) (p : Nat) : Value := .agg #[.int .i32 (Utf8.decode s p).1, .int .i64 (p : Int), .int .i64 ((Utf8.decode s p).2 : Int)]
/-- What a round that goes on keeps: the blocks from n₁ on, and block B. -/
def KeepsU (n₁ B : Nat) (W W' : World) : Prop := W.heap.size ≤ W'.heap.size ∧ ∀ k, n₁ ≤ k ∨ k = B → k < W.heap.size → W'.heap[k]? = W.heap[k]?

theorem set2_52 {w : World} {b : Nat} {x y z : Value} (h : w.heap[b]? = some (.cells #[x, y, z] 52 (0, 0))) (v : Value) : (w.setCell ⟨b, 2, none⟩ v).heap[b]? = some (.cells #[x, y, v] 52 (0, 0)) := blk_put h 2 v rfl
theorem set3_52 {w : World} {b : Nat} {x y z : Value} (h : w.heap[b]? = some (.cells #[x, y, z] 52 (0, 0))) (u0 u1 u2 : Value) :
    (((w.setCell ⟨b, 0, none⟩ u0).setCell ⟨b, 1, none⟩ u1).setCell ⟨b, 2, none⟩ u2).heap[b]? = some (.cells #[u0, u1, u2] 52 (0, 0)) := blk_put (blk_put (blk_put h 0 u0 rfl) 1 u1 rfl) 2 u2 rfl
theorem set3_far {w : World} {b k : Nat} (hk : k ≠ b) (u0 u1 u2 : Value) :
    (((w.setCell ⟨b, 0, none⟩ u0).setCell ⟨b, 1, none⟩ u1).setCell ⟨b, 2, none⟩ u2).heap[k]? = w.heap[k]? :=
  (Below.heap_setCell _ _ _ k hk).trans ((Below.heap_setCell _ _ _ k hk).trans (Below.heap_setCell _ _ _ k hk))
theorem set3_below {w : World} {b n : Nat} (hb : n ≤ b) (u0 u1 u2 : Value) : Below n w (((w.setCell ⟨b, 0, none⟩ u0).setCell ⟨b, 1, none⟩ u1).setCell ⟨b, 2, none⟩ u2) :=
  (((Below.refl n w).setCell (p := ⟨b, 0, none⟩) hb u0).setCell (p := ⟨b, 1, none⟩) hb u1).setCell (p := ⟨b, 2, none⟩) hb u2
theorem iterPos_of {w : World} {k : Nat} {s : ByteArray} {p : Nat} (h : w.heap[k]? = some (.stringIter s p)) : w.iterPos k = p := by simp [World.iterPos, h]
set_option maxRecDepth 100000 in
set_option maxHeartbeats 4000000 in
theorem units1_in (F : Fence) (n : Nat) (h43 : F.fn 43) (hro : F.round = none) (hn : 1 ≤ n) (l B n₁ : Nat) (s : ByteArray) (hs : s.size ≤ 9223372036854775807) (J Jx : Nat → World → Prop)
    (hJ : ∀ p W W', J p W → Below n₁ W W' → J p W') (hJx : ∀ p W W', Jx p W → Below n₁ W W' → Jx p W')
    (hY : ∀ p W, J p W → p < s.size → YieldAt F (n - 1) Try.prog l #[unitV s p] W fun e W' =>
      (e = .returned (.bool true) ∧ J (p + (Utf8.decode s p).2) W' ∧ KeepsU n₁ B W W') ∨ (e = .returned (.bool false) ∧ Jx p W'))
    (W : World) (hW : n₁ = W.heap.size) (hB : B < n₁) (hBs : W.cell? ⟨B, 0, none⟩ = some (.string s)) (h0 : J 0 W) :
    CallsIn F n Try.prog 43 #[.func (.yield l) #[] #[], .pointer (some ⟨B, 0, none⟩)] W fun e W' => (∃ v, e = .returned v) ∧
      ((∃ p, ¬ p < s.size ∧ J p W') ∨ (∃ p, p < s.size ∧ Jx p W')) := by
  refine callsIn_of_wp Try.func43 rfl h43 ?_ hro
  simp only [Try.ntmps43, List.size_toArray, List.length_cons, List.length_nil, Nat.reduceAdd, Nat.reduceSub, Array.replicate_succ, Array.replicate_zero, List.push_toArray, List.append_toArray, List.nil_append, List.cons_append]
  have hbl : B < W.heap.size := by omega
  subst hW
  have hBs1 : ∀ o, (W.alloc o).cell? ⟨B, 0, none⟩ = some (.string s) := fun o => (World.cell?_of_block (Below.heap_alloc W o B hbl)).trans hBs
  gi_wp2
  gi_loopw [4, 5, 9, 10, 11, 12, 13, 14, 15, 16, 17, 18, 19, 20, 21, 22, 23, 24, 25, 26, 27, 28, 29] (fun (v4 v5 v9 v10 v11 v12 v13 v14 v15 v16 v17 v18 v19 v20 v21 v22 v23 v24 v25 v26 v27 v28 v29 : Value) wr => ∃ (pos : Nat) (r at_ sz : Int), wr.heap[W.heap.size]? = some (.cells #[.int .i32 r, .int .i64 at_, .int .i64 sz] 52 (0, 0)) ∧ wr.heap[W.heap.size + 1]? = some (.stringIter s pos) ∧ wr.cell? ⟨B, 0, none⟩ = some (.string s) ∧
    ((at_ = -1 ∧ pos = 0 ∧ J 0 wr) ∨ (∃ p : Nat, at_ = p ∧ p < s.size ∧ pos = p + (Utf8.decode s p).2 ∧ r = (Utf8.decode s p).1 ∧ J p wr)))
    (fun v4 v5 v9 v10 v11 v12 v13 v14 v15 v16 v17 v18 v19 v20 v21 v22 v23 v24 v25 v26 v27 v28 v29 wr => s.size - wr.iterPos (W.heap.size + 1))
  case atStart =>
    have hb1 := Below.heap_alloc (W.alloc (Obj.cells #[Value.int IntKind.i32 0, Value.int IntKind.i64 (-1), Value.int IntKind.i64 0] 52)) (.stringIter s 0) W.heap.size (by simp)
    refine ⟨0, 0, -1, 0, hb1.trans (blk_new W _), ?_, (World.cell?_of_block (Below.heap_alloc _ _ B (by simp; omega))).trans (hBs1 _), .inl ⟨rfl, rfl, hJ _ _ _ h0 (((Below.refl _ W).alloc (Nat.le_refl _) _).alloc (by simp) _)⟩⟩
    have := blk_new (W.alloc (Obj.cells #[Value.int IntKind.i32 0, Value.int IntKind.i64 (-1), Value.int IntKind.i64 0] 52)) (.stringIter s 0)
    rwa [World.size_alloc] at this
  case round =>
    obtain ⟨pos, r, at_, sz, hu, hit, hBr, hst⟩ := hrel
    by_cases hp : pos < s.size
    · have hnx : ∀ ty, (Instr.next (.pointer (some ⟨W.heap.size + 1, 0, none⟩)) true ty).run Try.prog wr = _ := fun ty => run_next_at wr _ s pos ty hit hp
      have hu2 : (wr.putObj (W.heap.size + 1) (.stringIter s (pos + (Utf8.decode s pos).2))).heap[W.heap.size]? = _ := (World.putObj_heap_other (by omega)).trans hu
      obtain ⟨w2, hw2⟩ : ∃ w2, wr.putObj (W.heap.size + 1) (.stringIter s (pos + (Utf8.decode s pos).2)) = w2 := ⟨_, rfl⟩
      rw [hw2] at hnx hu2
      have c21 := (blk_cell hu2 1).trans rfl
      have f22 := blk_frozen hu2 2
      have c22 := (blk_cell hu2 2).trans rfl
      have c30 : ∀ v, (w2.setCell ⟨W.heap.size, 2, none⟩ v).cell? ⟨W.heap.size, 0, none⟩ = some (.int .i32 r) := fun v => blk_cell (set2_52 hu2 v) 0
      have c31 : ∀ v, (w2.setCell ⟨W.heap.size, 2, none⟩ v).cell? ⟨W.heap.size, 1, none⟩ = some (.int .i64 at_) := fun v => blk_cell (set2_52 hu2 v) 1
      have c32 : ∀ v, (w2.setCell ⟨W.heap.size, 2, none⟩ v).cell? ⟨W.heap.size, 2, none⟩ = some v := fun v => blk_cell (set2_52 hu2 v) 2
      have hlt1 := blk_lt hit
      have hb2 : Below W.heap.size wr w2 := by rw [← hw2]; exact (Below.refl _ wr).grown (grownBy_putObj' wr _ _) (by omega) (fun k e => by cases e; omega)
      have hit2 : w2.heap[W.heap.size + 1]? = some (.stringIter s (pos + (Utf8.decode s pos).2)) := by rw [← hw2]; exact World.putObj_heap_same hlt1
      have hB2 : w2.cell? ⟨B, 0, none⟩ = some (.string s) := (World.cell?_of_block (hb2.block B hbl)).trans hBr
      have hmon := width_pos s pos
      have hle := width_le s pos hp
      have ip := iterPos_of hit
      rcases hst with ⟨rfl, rfl, hJ0⟩ | ⟨p, rfl, hps, hpos, rfl, hJp⟩
      · have hu3 := fun v => set2_52 hu2 v
        have f30 : ∀ v, (w2.setCell ⟨W.heap.size, 2, none⟩ v).frozen? ⟨W.heap.size, 0, none⟩ = false := fun v => blk_frozen (hu3 v) 0
        have f31 : ∀ v, (w2.setCell ⟨W.heap.size, 2, none⟩ v).frozen? ⟨W.heap.size, 1, none⟩ = false := fun v => blk_frozen (hu3 v) 1
        have f32 : ∀ v, (w2.setCell ⟨W.heap.size, 2, none⟩ v).frozen? ⟨W.heap.size, 2, none⟩ = false := fun v => blk_frozen (hu3 v) 2
        gi_wp2
        refine ⟨fun _ h => (by cases h), ?_⟩
        gi_wp2
        go_roundw
        case rel =>
          refine ⟨_, _, _, _, set3_52 (hu3 _) _ _ _, (set3_far (by omega) _ _ _).trans ((Below.heap_setCell _ _ _ _ (by simp)).trans hit2), ?_, .inr ⟨0, rfl, hp, rfl, rfl, ?_⟩⟩
          · exact (World.cell?_of_block ((set3_far (by simp; omega) _ _ _).trans (Below.heap_setCell _ _ _ _ (by simp; omega)))).trans hB2
          · exact hJ _ _ _ hJ0 ((hb2.setCell (p := ⟨W.heap.size, 2, none⟩) (Nat.le_refl _) _).trans (set3_below (Nat.le_refl _) _ _ _))
        case measure =>
          rw [ip, iterPos_of ((set3_far (by omega) _ _ _).trans ((Below.heap_setCell _ _ _ _ (by simp)).trans hit2))]
          omega
      · subst hpos
        have e : unitV s p = .agg #[.int .i32 (Utf8.decode s p).1, .int .i64 (p : Int), .int .i64 ((p : Int) + ((Utf8.decode s p).2 : Int) - (p : Int))] := by
          unfold unitV
          have : (p : Int) + ((Utf8.decode s p).2 : Int) - (p : Int) = ((Utf8.decode s p).2 : Int) := by omega
          rw [this]
        obtain ⟨fn, tmps, assign, body, hy, hR⟩ := hY p (w2.setCell ⟨W.heap.size, 2, none⟩ (.int .i64 ((p : Int) + ((Utf8.decode s p).2 : Int) - (p : Int)))) (hJ _ _ _ hJp (hb2.setCell (p := ⟨W.heap.size, 2, none⟩) (Nat.le_refl _) _)) hps
        rw [e] at hy
        have hlt2 := blk_lt hit2
        gi_wp2
        refine hR.mono ?_
        rintro e W3 (⟨rfl, hJ3, hk3⟩ | ⟨rfl, hJx3⟩)
        · have hu3 := (hk3.2 W.heap.size (.inl (Nat.le_refl _)) (by rw [World.size_setCell]; omega)).trans (set2_52 hu2 _)
          have hit3 := (hk3.2 (W.heap.size + 1) (.inl (by omega)) (by rw [World.size_setCell]; omega)).trans ((Below.heap_setCell _ _ _ _ (by simp)).trans hit2)
          have hB3 : W3.cell? ⟨B, 0, none⟩ = some (.string s) := (World.cell?_of_block ((hk3.2 B (.inr rfl) (by rw [World.size_setCell]; omega)).trans (Below.heap_setCell _ _ _ _ (by simp; omega)))).trans hB2
          have f30 := blk_frozen hu3 0
          have f31 := blk_frozen hu3 1
          have f32 := blk_frozen hu3 2
          have d30 := (blk_cell hu3 0).trans rfl
          have d31 := (blk_cell hu3 1).trans rfl
          have d32 := (blk_cell hu3 2).trans rfl
          gi_wp2
          go_roundw
          case rel =>
            refine ⟨_, _, _, _, set3_52 hu3 _ _ _, (set3_far (by omega) _ _ _).trans hit3, (World.cell?_of_block (set3_far (by simp; omega) _ _ _)).trans hB3, .inr ⟨p + (Utf8.decode s p).2, by omega, hp, rfl, rfl, ?_⟩⟩
            exact hJ _ _ _ hJ3 (set3_below (Nat.le_refl _) _ _ _)
          case measure =>
            rw [ip, iterPos_of ((set3_far (by omega) _ _ _).trans hit3)]
            omega
        · gi_wp2
          refine bodyPost_ret (results_none rfl _ _ _) rfl ?_
          exact ⟨⟨_, rfl⟩, .inr ⟨p, hps, hJx3⟩⟩
    · have hnx : ∀ ty, (Instr.next (.pointer (some ⟨W.heap.size + 1, 0, none⟩)) true ty).run Try.prog wr = _ := fun ty => run_next_over wr _ s pos ty hit hp
      have c21 := (blk_cell hu 1).trans rfl
      have f22 := blk_frozen hu 2
      have c22 := (blk_cell hu 2).trans rfl
      have c30 : ∀ v, (wr.setCell ⟨W.heap.size, 2, none⟩ v).cell? ⟨W.heap.size, 0, none⟩ = some (.int .i32 r) := fun v => blk_cell (set2_52 hu v) 0
      have c31 : ∀ v, (wr.setCell ⟨W.heap.size, 2, none⟩ v).cell? ⟨W.heap.size, 1, none⟩ = some (.int .i64 at_) := fun v => blk_cell (set2_52 hu v) 1
      have c32 : ∀ v, (wr.setCell ⟨W.heap.size, 2, none⟩ v).cell? ⟨W.heap.size, 2, none⟩ = some v := fun v => blk_cell (set2_52 hu v) 2
      rcases hst with ⟨rfl, rfl, hJ0⟩ | ⟨p, rfl, hps, hpos, rfl, hJp⟩
      · gi_wp2
        go_end0
        exact ⟨⟨_, rfl⟩, .inl ⟨0, hp, hJ _ _ _ hJ0 ((Below.refl _ _).setCell (p := ⟨W.heap.size, 2, none⟩) (Nat.le_refl _) _)⟩⟩
      · have hsz : pos = s.size := by have := width_le s p hps; omega
        have hw0 := width_pos s p
        have e : unitV s p = .agg #[.int .i32 (Utf8.decode s p).1, .int .i64 (p : Int), .int .i64 ((s.size : Int) - (p : Int))] := by
          unfold unitV
          have : (s.size : Int) - (p : Int) = ((Utf8.decode s p).2 : Int) := by omega
          rw [this]
        obtain ⟨fn, tmps, assign, body, hy, hR⟩ := hY p (wr.setCell ⟨W.heap.size, 2, none⟩ (.int .i64 ((s.size : Int) - (p : Int)))) (hJ _ _ _ hJp ((Below.refl _ _).setCell (p := ⟨W.heap.size, 2, none⟩) (Nat.le_refl _) _)) hps
        rw [e] at hy
        gi_wp2
        refine hR.mono ?_
        rintro e W3 (⟨rfl, hJ3, hk3⟩ | ⟨rfl, hJx3⟩)
        · gi_wp2
          go_end0
          exact ⟨⟨_, rfl⟩, .inl ⟨p + (Utf8.decode s p).2, by omega, hJ3⟩⟩
        · gi_wp2
          go_end0
          exact ⟨⟨_, rfl⟩, .inr ⟨p, hps, hJx3⟩⟩
end Go.Proofs.Ytcgglamgemgeiaa.Q
/- FCodepointUnitValid -/
namespace Go.Proofs.Ytcgglamgemgeiaa.Q
open Go.RowKit Go.Proofs.YtcgglamgemgeiaaW.PrintWords Go.Proofs.YtcgglamgemgeiaaW.PrintLast Go.Proofs.YtcgglamgemgeiaaW.PrintMore
attribute [local go_sem] max2_int min2_int max_two min_two max_three min_three max_four min_four   -- for this text's walks alone
set_option linter.unusedVariables false
set_option linter.unusedSimpArgs false

/-! ### codepoint_unit_valid: function 40 -/
def codepoint_unit_valid.f (a0_0 : Int) (a0_1 : Int) (a0_2 : Int) : Option (Bool) := if a0_0 = 65533 then (some (a0_2 == 3)) else (some true)
set_option maxHeartbeats 8000000 in
set_option maxRecDepth 100000 in
theorem codepoint_unit_valid.calls (a0_0 : Int) (a0_1 : Int) (a0_2 : Int) (r : Bool) (w : World) (h : codepoint_unit_valid.f a0_0 a0_1 a0_2 = some r) :
    Calls Try.prog 40 #[.agg #[.int .i32 a0_0, .int .i64 a0_1, .int .i64 a0_2]] w fun e w' => e = .returned (.bool r) ∧ Below w.heap.size w w' := by
  have hu52 := Try.underlying52
  have HB := Aside0.mk (Below.refl w.heap.size w)
  have H : (if a0_0 = 65533 then (some (a0_2 == 3)) else (some true)) = some r := h
  clear h
  by_cases c2 : a0_0 = 65533
  · rw [if_pos c2] at H
    have c2b0 : (a0_0 == 65533) = true := beq_iff_eq.mpr c2
    have c2b1 : (a0_0 != 65533) = false := bne_eq_false_iff_eq.mpr c2
    clear c2
    obtain rfl := Option.some.inj H
    go_enter Try.func40, Try.ntmps40
    go_wp2_with (first | ((with_reducible refine gate_dst (N := 1) rfl ?_); refine box_event ?hg (N := 1) ?hd (cs := #[.int .i32 a0_0, .int .i64 a0_1, .int .i64 a0_2]) (t := 52) ?hr ?_; (case hd => rfl); (case hg => rfl); (case hr => first | (go_simp; done) | (go_simp; rfl)); intro gb102 hg w3 hbox hb; have n0_ := Aside0.mk (below_step (by repeat (first | (with_reducible first | exact HB.out | apply below_alloc | apply pw_below_drewN | apply below_drew1) | exact HB.out)) hb); have n1_ := Aside0.mk (hbox); have n2_ := Aside0.mk ((by rw [hg]; exact (below_size (by repeat (first | (with_reducible first | exact HB.out | apply below_alloc | apply pw_below_drewN | apply below_drew1) | exact HB.out))) : w.heap.size ≤ gb102)); have n3_ := Aside0.mk ((by rw [hg]; exact (below_size (by repeat (first | (with_reducible first | exact HB.out | apply below_alloc | apply pw_below_drewN | apply below_drew1) | exact HB.out))) : w.heap.size ≤ gb102)); clear HB; have HB := n0_; have BK102 := n1_; have GW102 := n2_; have GE102 := n3_; clear n0_ n1_ n2_ n3_; clear hb hbox hg; have hcz4_0 : w3.cell? ⟨gb102, 0, none⟩ = some (.int .i32 a0_0) := (blk_cell BK102.out 0).trans rfl; have hcz4_1 : w3.cell? ⟨gb102, 1, none⟩ = some (.int .i64 a0_1) := (blk_cell BK102.out 1).trans rfl; have hcz4_2 : w3.cell? ⟨gb102, 2, none⟩ = some (.int .i64 a0_2) := (blk_cell BK102.out 2).trans rfl; have hfz4_0 := blk_frozen BK102.out 0; have hfz4_1 := blk_frozen BK102.out 1; have hfz4_2 := blk_frozen BK102.out 2))
    go_ret
    exact ⟨by first | rfl | (simp [errW_none, errW_some] <;> rfl) | (simp [*, errW_none, errW_some] <;> rfl), by repeat (first | (with_reducible first | exact HB.out | apply below_alloc | apply pw_below_drewN | apply below_drew1 | refine below_set ?_ GE102.out) | exact HB.out)⟩
  · rw [if_neg c2] at H
    have c2b0 : (a0_0 == 65533) = false := beq_eq_false_iff_ne.mpr c2
    have c2b1 : (a0_0 != 65533) = true := bne_iff_ne.mpr c2
    obtain rfl := Option.some.inj H
    go_enter Try.func40, Try.ntmps40
    go_wp2_with (first | ((with_reducible refine gate_dst (N := 1) rfl ?_); refine box_event ?hg (N := 1) ?hd (cs := #[.int .i32 a0_0, .int .i64 a0_1, .int .i64 a0_2]) (t := 52) ?hr ?_; (case hd => rfl); (case hg => rfl); (case hr => first | (go_simp; done) | (go_simp; rfl)); intro gb102 hg w5 hbox hb; have n0_ := Aside0.mk (below_step (by repeat (first | (with_reducible first | exact HB.out | apply below_alloc | apply pw_below_drewN | apply below_drew1) | exact HB.out)) hb); have n1_ := Aside0.mk (hbox); have n2_ := Aside0.mk ((by rw [hg]; exact (below_size (by repeat (first | (with_reducible first | exact HB.out | apply below_alloc | apply pw_below_drewN | apply below_drew1) | exact HB.out))) : w.heap.size ≤ gb102)); have n3_ := Aside0.mk ((by rw [hg]; exact (below_size (by repeat (first | (with_reducible first | exact HB.out | apply below_alloc | apply pw_below_drewN | apply below_drew1) | exact HB.out))) : w.heap.size ≤ gb102)); clear HB; have HB := n0_; have BK102 := n1_; have GW102 := n2_; have GE102 := n3_; clear n0_ n1_ n2_ n3_; clear hb hbox hg; have hcz6_0 : w5.cell? ⟨gb102, 0, none⟩ = some (.int .i32 a0_0) := (blk_cell BK102.out 0).trans rfl; have hcz6_1 : w5.cell? ⟨gb102, 1, none⟩ = some (.int .i64 a0_1) := (blk_cell BK102.out 1).trans rfl; have hcz6_2 : w5.cell? ⟨gb102, 2, none⟩ = some (.int .i64 a0_2) := (blk_cell BK102.out 2).trans rfl; have hfz6_0 := blk_frozen BK102.out 0; have hfz6_1 := blk_frozen BK102.out 1; have hfz6_2 := blk_frozen BK102.out 2))
    go_ret
    exact ⟨by first | rfl | (simp [errW_none, errW_some] <;> rfl) | (simp [*, errW_none, errW_some] <;> rfl), by repeat (first | (with_reducible first | exact HB.out | apply below_alloc | apply pw_below_drewN | apply below_drew1 | refine below_set ?_ GE102.out) | exact HB.out)⟩

end Go.Proofs.Ytcgglamgemgeiaa.Q
/- CpValid -/
namespace Go.Proofs.Ytcgglamgemgeiaa.Q
open Go.RowKit Go.Shelf Go.Lib Go.Proofs.YtcgglamgemgeiaaW.PrintWords
attribute [local go_sem] Oper.semAt_some
set_option maxHeartbeats 1000000 in
theorem units_in (F : Fence) (n : Nat) (h39 : F.fn 39) (hro : F.round = none) (s : ByteArray) (w : World) :
    CallsIn F n Try.prog 39 #[.string s] w fun e w' => e = .returned (.func (.func 43) #[] #[.pointer (some ⟨w.heap.size, 0, none⟩)]) ∧ w' = w.alloc (.cells #[.string s] 9) := by
  refine callsIn_of_wp Try.func39 rfl h39 ?_ hro
  simp only [Try.ntmps39, List.size_toArray, List.length_cons, List.length_nil, Nat.reduceAdd, Nat.reduceSub, Array.replicate_succ, Array.replicate_zero, List.push_toArray, List.append_toArray, List.nil_append, List.cons_append]
  gi_wp2
  go_ret
  exact ⟨rfl, rfl⟩
/-- How the body of a round may be left. -/
def roundU (Kp : World → World → Prop) (I : World → Prop) (Ix : World → Prop) (W : World) : Exit → Act → World → Prop
  | .normal, _, W' => Kp W W' ∧ I W'
  | .ret, _, W' => Kp W W' ∧ Ix W'
  | _, _, _ => False
set_option maxHeartbeats 1000000 in
/-- A loop over codepoint.units(s): what the caller owes. -/
theorem wpIn_units {F : Fence} {n : Nat} {g : Operand} {ps : Array Tmp} {assign body : Code} {Q : Exit → Act → World → Prop} {a : Act} {w : World} (h43 : F.fn 43) (hro : F.round = none) (hn : 2 ≤ n) {B : Nat} (hps : ps.size = 1)
    (hg : a.eval g = .func (.func 43) #[] #[.pointer (some ⟨B, 0, none⟩)]) (s : ByteArray) (hs : s.size ≤ 9223372036854775807) (hB : w.cell? ⟨B, 0, none⟩ = some (.string s))
    (I Ix : Nat → World → Prop) (hI : ∀ p W W', I p W → Below w.heap.size W W' → I p W') (hIx : ∀ p W W', Ix p W → Below w.heap.size W W' → Ix p W') (h0 : I 0 w)
    (A : Nat → Act → World → Prop) (hA : ∀ p a' W o, A p a' W → A p a' (W.putObj (w.heap.size + 1) o))
    (hassign : ∀ (l p : Nat) (W : World) (K : Act → World → Prop), I p W → p < s.size → w.heap.size + 2 ≤ W.heap.size → (∀ a' W', KeepsU w.heap.size B W W' → A p a' W' → I p W' → K a' W') →
      assign.wpIn (F.inRound l) (n - 1 - 1) Try.prog (Exit.then K (fun _ _ _ => False)) { tmps := (ps.zip #[unitV s p]).foldl (fun t (p, v) => t.setIfInBounds p v) a.tmps, defers := [] } W)
    (hbody : ∀ (l p : Nat) (a' : Act) (W : World), I p W → p < s.size → A p a' W → body.wpIn (F.inRound l) (n - 1 - 1) Try.prog (roundU (KeepsU w.heap.size B) (I (p + (Utf8.decode s p).2)) (Ix p) W) a' W)
    (hdone : ∀ (p : Nat) (W : World), ¬ p < s.size → I p W → W.heap[w.heap.size]? = some (.deferred (some [])) → Q .normal { a with defers := { target := .collected w.heap.size, args := #[] } :: a.defers } W)
    (hstop : ∀ (p : Nat) (W : World), p < s.size → Ix p W → W.heap[w.heap.size]? = some (.deferred (some [])) → Code.ret.wpIn F n Try.prog Q { a with defers := { target := .collected w.heap.size, args := #[] } :: a.defers } W) :
    (Code.rangeFunc g ps assign body).wpIn F n Try.prog Q a w := by
  have hbl := World.block_lt_of_cell? w _ hB
  simp only at hbl
  refine wpIn_rangeFunc ?_
  intro fn hfn
  rw [hro]
  obtain ⟨rec, hrec⟩ : ∃ rec : LoopState → Option Code → Loop, rec = fun st pe => { state := st, pending := pe, fn, tmps := a.tmps, params := ps, assign, body, defers := w.heap.size } := ⟨_, rfl⟩
  obtain ⟨W1, hW1⟩ : ∃ W1, (w.alloc (.deferred (some []))).alloc (.loop (rec .ready none)) = W1 := ⟨_, rfl⟩
  have hs1 : W1.heap.size = w.heap.size + 2 := by rw [← hW1]; simp
  have hL1 : W1.heap[w.heap.size + 1]? = some (.loop (rec .ready none)) := by
    rw [← hW1]; have := World.alloc_heap_new (w.alloc (.deferred (some []))) (.loop (rec .ready none)); rwa [World.size_alloc] at this
  have hK1 : W1.heap[w.heap.size]? = some (.deferred (some [])) := by
    rw [← hW1]; exact (Below.heap_alloc _ _ _ (by simp)).trans (World.alloc_heap_new w _)
  have hb1 : Below w.heap.size w W1 := by rw [← hW1]; exact ((Below.refl _ w).alloc (Nat.le_refl _) _).alloc (by simp) _
  have put : ∀ (W : World) (o o' : Obj), W.heap[w.heap.size + 1]? = some o → Below w.heap.size W (W.putObj (w.heap.size + 1) o') := fun W o o' h =>
    (Below.refl _ W).grown (grownBy_putObj' W _ o') (by have := blk_lt h; omega) (fun k e => by cases e; omega)
  refine ⟨w.heap.size + 1, [{ target := .collected w.heap.size, args := #[] }], W1, { target := .fn (.func 43) #[.pointer (some ⟨B, 0, none⟩)], args := #[.func (.yield (w.heap.size + 1)) #[] #[]] }, W1, 43,
    #[.func (.yield (w.heap.size + 1)) #[] #[], .pointer (some ⟨B, 0, none⟩)], W1, ?_, ?_, ?_, ?_, fun _ => by omega, ?_⟩
  · rw [← hW1, hrec]; exact run_enterLoop_outer _ _ _ _ _
  · simp only [resolve, hg]; simp [go_sem]
  · intro f' hf'; simp [Target.leads] at hf'; subst hf'; exact h43
  · simp [invoke, go_sem]
  · refine (units1_in F (n - 1) h43 hro (by omega) (w.heap.size + 1) B W1.heap.size s hs
      (fun p W => I p W ∧ W.heap[w.heap.size + 1]? = some (.loop (rec .ready none)) ∧ W.heap[w.heap.size]? = some (.deferred (some [])))
      (fun p W => Ix p W ∧ W.heap[w.heap.size + 1]? = some (.loop (rec .done (some .ret))) ∧ W.heap[w.heap.size]? = some (.deferred (some [])))
      (fun p W W' h hb => ⟨hI p W W' h.1 (hb.mono (by omega)), (hb.block _ (by omega)).trans h.2.1, (hb.block _ (by omega)).trans h.2.2⟩)
      (fun p W W' h hb => ⟨hIx p W W' h.1 (hb.mono (by omega)), (hb.block _ (by omega)).trans h.2.1, (hb.block _ (by omega)).trans h.2.2⟩)
      ?_ W1 rfl (by omega) ((World.cell?_of_block (hb1.block B (by omega))).trans hB) ⟨hI 0 w W1 h0 hb1, hL1, hK1⟩).mono ?_
    · rintro p W ⟨hi, hl, hk⟩ hp
      have hlt := blk_lt hl
      have hy := run_yield (P := Try.prog) (args := #[unitV s p]) hl (by rw [hrec]; exact hps.symm)
      rw [hrec] at hy
      refine ⟨fn, _, assign, body, hy, roundIn_of_wpIn hfn (hassign _ p W _ hi hp (by omega) ?_)⟩
      intro a' Wa hka hax hia
      have hla := (hka.2 _ (.inl (by omega)) hlt).trans hl
      have hkka := (hka.2 _ (.inl (by omega)) (by omega)).trans hk
      have hlta := blk_lt hla
      refine ⟨_, run_beginRound hla (by rw [hrec]), ?_⟩
      have hl2 : (Wa.putObj (w.heap.size + 1) (.loop { rec .ready none with state := .busy })).heap[w.heap.size + 1]? = some (.loop { rec .ready none with state := .busy }) := World.putObj_heap_same hlta
      have hk2 : (Wa.putObj (w.heap.size + 1) (.loop { rec .ready none with state := .busy })).heap[w.heap.size]? = some (.deferred (some [])) := (World.putObj_heap_other (by omega)).trans hkka
      refine wpIn_mono (hbody _ p a' _ (hI _ _ _ hia (put _ _ _ hla)) hp (hA _ _ _ _ hax)) ?_
      have kp : ∀ (W3 : World) (o : Obj), KeepsU w.heap.size B (Wa.putObj (w.heap.size + 1) (.loop { rec .ready none with state := .busy })) W3 → KeepsU W1.heap.size B W (W3.putObj (w.heap.size + 1) o) := fun W3 o h3 =>
        ⟨by have := hka.1; have := h3.1; simp only [World.putObj_size] at *; omega, fun k hk hkw => by
          have k1 : k ≠ w.heap.size + 1 := by omega
          have k2 : w.heap.size ≤ k ∨ k = B := by omega
          exact (World.putObj_heap_other k1).trans ((h3.2 k k2 (by have := hka.1; rw [World.putObj_size]; omega)).trans ((World.putObj_heap_other k1).trans (hka.2 k k2 hkw)))⟩
      rintro e a3 W3 hq
      cases e with
      | normal =>
        obtain ⟨hk3, hi3⟩ := hq
        have hl3 := (hk3.2 (w.heap.size + 1) (.inl (by omega)) (by rw [World.putObj_size]; omega)).trans hl2
        have hd3 := (hk3.2 w.heap.size (.inl (by omega)) (by rw [World.putObj_size]; omega)).trans hk2
        have hr := run_endRound (P := Try.prog) none hl3
        refine ⟨_, _, hr, .inl ⟨rfl, ⟨hI _ _ _ hi3 (put _ _ _ hl3), ?_, (World.putObj_heap_other (by omega)).trans hd3⟩, kp W3 _ hk3⟩⟩
        have := World.putObj_heap_same (w := W3) (o := .loop (rec .ready none)) (blk_lt hl3)
        rw [hrec] at this ⊢; exact this
      | ret =>
        obtain ⟨hk3, hi3⟩ := hq
        have hl3 := (hk3.2 (w.heap.size + 1) (.inl (by omega)) (by rw [World.putObj_size]; omega)).trans hl2
        have hd3 := (hk3.2 w.heap.size (.inl (by omega)) (by rw [World.putObj_size]; omega)).trans hk2
        have hr := run_endRound (P := Try.prog) (some .ret) hl3
        refine ⟨_, _, hr, .inr ⟨rfl, ⟨hIx _ _ _ hi3 (put _ _ _ hl3), ?_, (World.putObj_heap_other (by omega)).trans hd3⟩⟩⟩
        have := World.putObj_heap_same (w := W3) (o := .loop (rec .done (some .ret))) (blk_lt hl3)
        rw [hrec] at this ⊢; exact this
      | exit id => exact hq.elim
      | goto t => exact hq.elim
      | panic ch => exact hq.elim
      | outgrown => exact hq.elim
    · rintro e W2 ⟨⟨v, rfl⟩, (⟨p, hp, hi, hl, hk⟩ | ⟨p, hp, hi, hl, hk⟩)⟩
      · exact ⟨none, _, by have := run_endLoop (P := Try.prog) hl (by rw [hrec]; simp); rw [hrec] at this; exact this, hdone p _ hp (hI _ _ _ hi (put _ _ _ hl)) ((World.putObj_heap_other (by omega)).trans hk)⟩
      · exact ⟨some .ret, _, by have := run_endLoop (P := Try.prog) hl (by rw [hrec]; simp); rw [hrec] at this; exact this, hstop p _ hp (hIx _ _ _ hi (put _ _ _ hl)) ((World.putObj_heap_other (by omega)).trans hk)⟩
theorem decodeN_fffd (n b0 b1 b2 b3 : Nat) (h : (decodeN n b0 b1 b2 b3).1 = 65533) : (decodeN n b0 b1 b2 b3).2 = 1 ∨ (decodeN n b0 b1 b2 b3).2 = 3 := by
  revert h
  unfold decodeN
  repeat' split
  all_goals (intro h; first | exact .inl rfl | exact .inr rfl | (exfalso; simp only at h; omega))
/-- What (unit).valid says of the unit at a place. -/
def okU (s : ByteArray) (p : Nat) : Bool := !decide ((Utf8.decode s p).1 = 65533 ∧ (Utf8.decode s p).2 = 1)
theorem unit_valid_f (s : ByteArray) (p : Nat) : codepoint_unit_valid.f ((Utf8.decode s p).1 : Int) (p : Int) ((Utf8.decode s p).2 : Int) = some (okU s p) := by
  have h := decodeN_fffd (s.size - p) (s.get! p).toNat (s.get! (p + 1)).toNat (s.get! (p + 2)).toNat (s.get! (p + 3)).toNat
  rw [← decode_at] at h
  unfold codepoint_unit_valid.f okU
  by_cases h1 : (Utf8.decode s p).1 = 65533
  · rw [if_pos (by omega)]
    rcases h h1 with h2 | h2 <;> simp [h1, h2]
  · rw [if_neg (by omega)]
    simp [h1]
theorem drop_ne (s : ByteArray) (p : Nat) (hp : p < s.size) : s.data.toList.drop p ≠ [] := by
  intro h
  have := congrArg List.length h
  rw [List.length_drop, ← size_eq] at this
  simp at this
  omega
theorem valid_step_at (s : ByteArray) (p : Nat) (hp : p < s.size) : validD (s.data.toList.drop p) = (okU s p && validD (s.data.toList.drop (p + (Utf8.decode s p).2))) := by
  rw [validD_step _ (drop_ne s p hp), decodeL_drop]
  unfold okU
  by_cases h : (Utf8.decode s p).1 = 65533 ∧ (Utf8.decode s p).2 = 1
  · rw [if_pos h]; simp [h]
  · rw [if_neg h, List.drop_drop]; simp [h]
theorem drop_end (s : ByteArray) (p : Nat) (hp : ¬ p < s.size) : s.data.toList.drop p = [] := List.drop_eq_nil_of_le (by rw [← size_eq]; omega)
set_option maxRecDepth 100000 in
set_option maxHeartbeats 4000000 in
theorem cpValid_in (n : Nat) (hn : 3 ≤ n) (s : ByteArray) (hs : s.size ≤ 9223372036854775807) (w : World) :
    CallsIn Fence.wide n Try.prog 36 #[.string s] w fun e w' => e = .returned (.bool (validD s.data.toList)) ∧ Below w.heap.size w w' := by
  have h1 : 1 ≤ n := by omega
  refine callsIn_of_wp_marks Try.func36 rfl trivial ?_ rfl
  simp only [Try.ntmps36, List.size_toArray, List.length_cons, List.length_nil, Nat.reduceAdd, Nat.reduceSub, Array.replicate_succ, Array.replicate_zero, List.push_toArray, List.append_toArray, List.nil_append, List.cons_append]
  gi_wp2_with (refine ⟨trivial, ?_⟩; gi_at_call 39; refine (units_in Fence.wide (n - 1) trivial rfl _ _).mono ?_; rintro e w' ⟨rfl, rfl⟩)
  obtain ⟨W0, hW0⟩ : ∃ W0, (w.alloc (.cells #[.bool false] 4)).alloc (.cells #[.string s] 9) = W0 := ⟨_, rfl⟩
  have hs0 : W0.heap.size = w.heap.size + 2 := by rw [← hW0]; simp
  have hB0 : W0.heap[w.heap.size]? = some (.cells #[.bool false] 4 (0, 0)) := by rw [← hW0]; exact (Below.heap_alloc _ _ _ (by simp)).trans (blk_new w _)
  have hB1 : W0.heap[w.heap.size + 1]? = some (.cells #[.string s] 9 (0, 0)) := by
    rw [← hW0]; have := blk_new (w.alloc (.cells #[.bool false] 4)) (.cells #[.string s] 9); rwa [World.size_alloc] at this
  have hb0 : Below w.heap.size w W0 := by rw [← hW0]; exact ((Below.refl _ w).alloc (Nat.le_refl _) _).alloc (by simp) _
  rw [hW0]
  refine wpIn_units (F := Fence.wide) (n := n) (B := w.heap.size + 1) trivial rfl (by omega) rfl rfl s hs (blk_cell hB1 0)
    (fun p W => Below w.heap.size w W ∧ W.heap[w.heap.size]? = some (.cells #[.bool false] 4 (0, 0)) ∧ validD (s.data.toList.drop p) = validD s.data.toList)
    (fun p W => Below w.heap.size w W ∧ W.heap[w.heap.size]? = some (.cells #[.bool false] 4 (0, 0)) ∧ validD s.data.toList = false)
    (fun p W W' h hb => ⟨h.1.trans (hb.mono (by omega)), (hb.block _ (by omega)).trans h.2.1, h.2.2⟩)
    (fun p W W' h hb => ⟨h.1.trans (hb.mono (by omega)), (hb.block _ (by omega)).trans h.2.1, h.2.2⟩)
    ⟨hb0, hB0, rfl⟩
    (fun p a' W => ∃ Bx, Bx ≠ W0.heap.size + 1 ∧ w.heap.size < Bx ∧ Bx ≠ w.heap.size + 1 ∧ W.heap[Bx]? = some (.cells #[.int .i32 (Utf8.decode s p).1, .int .i64 (p : Int), .int .i64 ((Utf8.decode s p).2 : Int)] 52 (0, 0)) ∧
      a' = { tmps := #[.string s, undef, .pointer (some ⟨w.heap.size, 0, none⟩), .pointer (some ⟨Bx, 0, none⟩), .string s, .func (.func 43) #[] #[.pointer (some ⟨w.heap.size + 1, 0, none⟩)], unitV s p, undef, undef, undef], defers := [] })
    (fun p a' W o h => by obtain ⟨Bx, h1, h2, h3, h4, h5⟩ := h; exact ⟨Bx, h1, h2, h3, (World.putObj_heap_other h1).trans h4, h5⟩) ?assign ?body ?done ?stop
  case assign =>
    intro l p W K hi hp hsz hK
    unfold unitV
    gi_wp2
    refine hK _ _ ⟨by simp, fun k _ hk => Below.heap_alloc W _ k hk⟩ ⟨W.heap.size, by omega, by omega, by omega, blk_new W _, rfl⟩ ⟨hi.1.alloc hi.1.size _, (Below.heap_alloc W _ _ (by omega)).trans hi.2.1, hi.2.2⟩
  case body =>
    rintro l p a' W ⟨hb, hr, hv⟩ hp ⟨Bx, k1, k2, k3, h4, rfl⟩
    have h11 : 1 ≤ n - 1 - 1 := by omega
    have c0 := (blk_cell h4 0).trans rfl
    have c1 := (blk_cell h4 1).trans rfl
    have c2 := (blk_cell h4 2).trans rfl
    have hvs := valid_step_at s p hp
    have hu := unit_valid_f s p
    cases hok : okU s p with
    | true =>
      rw [hok] at hvs hu
      rw [Bool.true_and] at hvs
      gi_wp2_with (refine ⟨trivial, ?_⟩; gi_at_call 40; refine (CallsIn.inRound l (callsIn_wide.2 (codepoint_unit_valid.calls _ _ _ _ _ hu))).mono ?_; rintro e w' ⟨rfl, hb'⟩)
      exact ⟨⟨hb'.size, fun k _ hk => hb'.block k hk⟩, hb.trans (hb'.mono hb.size), (hb'.block _ (blk_lt hr)).trans hr, by rw [← hvs, hv]⟩
    | false =>
      rw [hok] at hvs hu
      rw [Bool.false_and, hv] at hvs
      gi_wp2_with (refine ⟨trivial, ?_⟩; gi_at_call 40; refine (CallsIn.inRound l (callsIn_wide.2 (codepoint_unit_valid.calls _ _ _ _ _ hu))).mono ?_; rintro e w' ⟨rfl, hb'⟩; have hr' := (hb'.block _ (blk_lt hr)).trans hr; have hc := (blk_cell hr' 0).trans rfl; have hf := blk_frozen hr' 0)
      refine ⟨⟨by rw [World.size_setCell]; exact hb'.size, fun k hk hkw => (Below.heap_setCell _ _ _ k (by simp; omega)).trans (hb'.block k hkw)⟩, (hb.trans (hb'.mono hb.size)).setCell (p := ⟨w.heap.size, 0, none⟩) (Nat.le_refl _) _, blk_put hr' 0 _ rfl, hvs⟩
  case done =>
    rintro p W hp ⟨hb, hr, hv⟩ hK
    rw [drop_end s p hp, validD_nil] at hv
    replace hv := hv.symm
    have hc := (blk_cell hr 0).trans rfl
    have hf := blk_frozen hr 0
    gi_wp2
    have hr1 := blk_put hr 0 (.bool true) rfl
    have hK1 := (Below.heap_setCell W ⟨w.heap.size, 0, none⟩ (.bool true) W0.heap.size (by simp; omega)).trans hK
    refine ⟨by simp, .inl ⟨_, _, rfl, run_takeDeferred hK1, ?_⟩⟩
    have hr2 := (World.putObj_heap_other (o := Obj.deferred none) (r := W0.heap.size) (k := w.heap.size) (by omega)).trans hr1
    have hc2 := (blk_cell hr2 0).trans rfl
    refine ⟨.bool true, ?_, by rw [hv], ?_⟩
    · simp [results, Try.f36, go_sem, hc2]
    · exact (hb.setCell (p := ⟨w.heap.size, 0, none⟩) (Nat.le_refl _) _).grown (grownBy_putObj' _ _ _) (by rw [World.size_setCell]; exact hb.size) (fun k e => by cases e; omega)
  case stop =>
    rintro p W hp ⟨hb, hr, hv⟩ hK
    gi_wp2
    refine ⟨by simp, .inl ⟨_, _, rfl, run_takeDeferred hK, ?_⟩⟩
    have hr2 := (World.putObj_heap_other (o := Obj.deferred none) (r := W0.heap.size) (k := w.heap.size) (by omega)).trans hr
    have hc2 := (blk_cell hr2 0).trans rfl
    refine ⟨.bool false, ?_, by rw [hv], ?_⟩
    · simp [results, Try.f36, go_sem, hc2]
    · exact hb.grown (grownBy_putObj' _ _ _) hb.size (fun k e => by cases e; omega)
end Go.Proofs.Ytcgglamgemgeiaa.Q
/- FCodepointValid -/
namespace Go.Proofs.Ytcgglamgemgeiaa.Q
open Go.RowKit Go.Proofs.YtcgglamgemgeiaaW.PrintWords Go.Proofs.YtcgglamgemgeiaaW.PrintLast Go.Proofs.YtcgglamgemgeiaaW.PrintMore
attribute [local go_sem] max2_int min2_int max_two min_two max_three min_three max_four min_four   -- for this text's walks alone
set_option linter.unusedVariables false
set_option linter.unusedSimpArgs false

/-! ### codepoint_Valid: function 36 -/
def codepoint_Valid.f (a0 : ByteArray) : Option (Bool) := if a0.size ≤ 9223372036854775807 then some (Lib.validD a0.data.toList) else none
theorem codepoint_Valid.calls (a0 : ByteArray) (r : Bool) (w : World) (h : codepoint_Valid.f a0 = some r) :
    Calls Try.prog 36 #[.string a0] w fun e w' => e = .returned (.bool r) ∧ Below w.heap.size w w' := by
  unfold codepoint_Valid.f at h
  by_cases hs : a0.size ≤ 9223372036854775807
  · rw [if_pos hs] at h
    obtain rfl := Option.some.inj h
    exact callsIn_wide.1 (cpValid_in 3 (Nat.le_refl _) a0 hs w)
  · rw [if_neg hs] at h
    cases h

end Go.Proofs.Ytcgglamgemgeiaa.Q
/- MkValue -/
namespace Go.Proofs.Ytcgglamgemgeiaa.Q
open Go.RowKit Go.Lib Go.Proofs.YtcgglamgemgeiaaW.PrintWords
theorem any_step_at (s : ByteArray) (p : Nat) (hp : p < s.size) (hv : validD (s.data.toList.drop p) = true) :
    (s.data.toList.drop p).any badB = ((decide ((Utf8.decode s p).1 ≤ 31) || decide ((Utf8.decode s p).1 = 127)) || (s.data.toList.drop (p + (Utf8.decode s p).2)).any badB) := by
  have h := any_unit (s.data.toList.drop p) (drop_ne s p hp) (fun hc => by
    rw [validD_step _ (drop_ne s p hp), if_pos hc] at hv; cases hv)
  rw [decodeL_drop, List.drop_drop] at h
  exact h
set_option maxRecDepth 100000 in
set_option maxHeartbeats 4000000 in
theorem mkValue_calls (s : ByteArray) (w : World) :
    Calls Try.prog 26 #[.string s] w fun e w' => e = .returned (.int .i64 (vv s)) ∧ Below w.heap.size w w' := by
  have HB := Below.refl w.heap.size w
  by_cases h1 : 120 < s.size
  · have h1b : decide ((120 : Int) < (s.size : Int)) = true := decide_eq_true (by omega)
    have hv : vv s = 2 := by unfold vv; rw [if_pos h1]
    go_enter Try.func26, Try.ntmps26
    go_wp2
    go_ret
    exact ⟨by rw [hv]; rfl, HB⟩
  · have h1b : decide ((120 : Int) < (s.size : Int)) = false := decide_eq_false (by omega)
    have hs : s.size ≤ 9223372036854775807 := by omega
    have hf : codepoint_Valid.f s = some (validD s.data.toList) := by unfold codepoint_Valid.f; rw [if_pos hs]
    cases hvd : validD s.data.toList with
    | false =>
      have hv : vv s = 7 := by unfold vv; rw [if_neg h1, if_pos hvd]
      rw [hvd] at hf
      go_enter Try.func26, Try.ntmps26
      go_wp2_with (go_at_call 36; refine (codepoint_Valid.calls _ _ _ hf).mono ?_; rintro e w' ⟨rfl, hb⟩)
      go_ret
      exact ⟨by rw [hv]; rfl, hb⟩
    | true =>
      have hv : vv s = if s.data.toList.any badB = true then 14 else 0 := by unfold vv; rw [if_neg h1, if_neg (by simp [hvd])]
      rw [hvd] at hf
      go_enter Try.func26, Try.ntmps26
      go_wp2_with (go_at_call 36; refine (codepoint_Valid.calls _ _ _ hf).mono ?_; rintro e w1 ⟨rfl, hb⟩)
      have hs1 := hb.size
      go_loopw [4] (fun (_ : Value) wr => ∃ (pos : Nat), wr.heap[w1.heap.size]? = some (.stringIter s pos) ∧ Below w.heap.size w wr ∧ pos ≤ s.size ∧ validD (s.data.toList.drop pos) = true ∧ s.data.toList.any badB = (s.data.toList.drop pos).any badB)
        (fun _ wr => s.size - wr.iterPos w1.heap.size)
      case atStart => exact ⟨0, blk_new w1 _, hb.alloc hs1 _, Nat.zero_le _, hvd, rfl⟩
      case round =>
        obtain ⟨pos, hit, HB1, hle, hvp, hbad⟩ := hrel
        have ip := iterPos_of hit
        have hlt1 := blk_lt hit
        by_cases hp : pos < s.size
        · have hnx : ∀ ty, (Instr.next (.pointer (some ⟨w1.heap.size, 0, none⟩)) true ty).run Try.prog wr = _ := fun ty => run_next_at wr _ s pos ty hit hp
          have hb2 : Below w.heap.size w (wr.putObj w1.heap.size (.stringIter s (pos + (Utf8.decode s pos).2))) := HB1.grown (grownBy_putObj' wr _ _) HB1.size (fun k e => by cases e; exact hs1)
          have hit2 : (wr.putObj w1.heap.size (.stringIter s (pos + (Utf8.decode s pos).2))).heap[w1.heap.size]? = some (.stringIter s (pos + (Utf8.decode s pos).2)) := World.putObj_heap_same hlt1
          have ip2 := iterPos_of hit2
          have hw0 := width_pos s pos
          have hw1 := width_le s pos hp
          have hstep := any_step_at s pos hp hvp
          have hvs := valid_step_at s pos hp
          rw [hvp] at hvs
          have hv2 : validD (s.data.toList.drop (pos + (Utf8.decode s pos).2)) = true := by
            cases h : validD (s.data.toList.drop (pos + (Utf8.decode s pos).2)) with
            | true => rfl
            | false => rw [h, Bool.and_false] at hvs; cases hvs
          clear hvs
          by_cases k1 : (Utf8.decode s pos).1 ≤ 31
          · have k1b : decide (((Utf8.decode s pos).1 : Int) ≤ 31) = true := decide_eq_true (by omega)
            have hv14 : vv s = 14 := by rw [hv, hbad, hstep]; simp [k1]
            go_wp2
            go_ret
            exact ⟨by rw [hv14]; rfl, hb2⟩
          · have k1b : decide (((Utf8.decode s pos).1 : Int) ≤ 31) = false := decide_eq_false (by omega)
            by_cases k2 : (Utf8.decode s pos).1 = 127
            · have k2b : (((Utf8.decode s pos).1 : Int) == 127) = true := beq_iff_eq.2 (by omega)
              have hv14 : vv s = 14 := by rw [hv, hbad, hstep]; simp [k2]
              go_wp2
              go_ret
              exact ⟨by rw [hv14]; rfl, hb2⟩
            · have k2b : (((Utf8.decode s pos).1 : Int) == 127) = false := beq_eq_false_iff_ne.2 (by omega)
              have hbad2 : s.data.toList.any badB = (s.data.toList.drop (pos + (Utf8.decode s pos).2)).any badB := by rw [hbad, hstep]; simp [k1, k2]
              clear hstep hv hbad
              go_wp2
              go_roundw
              case rel => exact ⟨_, hit2, hb2, hw1, hv2, hbad2⟩
              case measure => rw [ip, ip2]; omega
        · have hnx : ∀ ty, (Instr.next (.pointer (some ⟨w1.heap.size, 0, none⟩)) true ty).run Try.prog wr = _ := fun ty => run_next_over wr _ s pos ty hit hp
          have hv0 : vv s = 0 := by rw [hv, hbad, drop_end s pos hp]; rfl
          go_wp2
          go_ret
          exact ⟨by rw [hv0]; rfl, HB1⟩
end Go.Proofs.Ytcgglamgemgeiaa.Q
/- FMarkupValidValue -/
namespace Go.Proofs.Ytcgglamgemgeiaa.Q
open Go.RowKit Go.Proofs.YtcgglamgemgeiaaW.PrintWords Go.Proofs.YtcgglamgemgeiaaW.PrintLast Go.Proofs.YtcgglamgemgeiaaW.PrintMore
attribute [local go_sem] max2_int min2_int max_two min_two max_three min_three max_four min_four   -- for this text's walks alone
set_option linter.unusedVariables false
set_option linter.unusedSimpArgs false

/-! ### markup_ValidValue: function 26 -/
def markup_ValidValue.f (a0 : ByteArray) : Option (Int) := some (vv a0)
theorem markup_ValidValue.calls (a0 : ByteArray) (r : Int) (w : World) (h : markup_ValidValue.f a0 = some r) :
    Calls Try.prog 26 #[.string a0] w fun e w' => e = .returned (.int .i64 r) ∧ Below w.heap.size w w' := by
  obtain rfl := Option.some.inj h
  exact mkValue_calls a0 w

end Go.Proofs.Ytcgglamgemgeiaa.Q
/- Shelf -/
namespace Go.Proofs.Ytcgglamgemgeiaa
open Go.Shelf
def Try.lays144_ren : Go.Shelf.Ren := ⟨fun | 144 => 28 | 143 => 38 | 219 => 42 | 217 => 44 | 225 => 45 | 224 => 46 | 267 => 47 | 266 => 48 | 314 => 49 | n => n, fun | 9 => 9 | 4 => 4 | 3 => 3 | 5 => 5 | 46 => 60 | 146 => 62 | 51 => 61 | n => n, fun | 1 => 0 | n => n⟩
theorem Try.lays144 : Go.Proofs.Lays.n144 Try.prog Try.lays144_ren := {
  mixed := by kernel_rfl
  f143 := Try.func38.trans (congrArg some (by kernel_rfl))
  f144 := Try.func28.trans (congrArg some (by kernel_rfl))
  f217 := Try.func44.trans (congrArg some (by kernel_rfl))
  f219 := Try.func42.trans (congrArg some (by kernel_rfl))
  f224 := Try.func46.trans (congrArg some (by kernel_rfl))
  f225 := Try.func45.trans (congrArg some (by kernel_rfl))
  f266 := Try.func48.trans (congrArg some (by kernel_rfl))
  f267 := Try.func47.trans (congrArg some (by kernel_rfl))
  f314 := Try.func49.trans (congrArg some (by kernel_rfl))
  t3 := Try.underlying3
  a3 := Try.isAgg3
  z3 := Try.sizeOf3
  v3 := Try.zeroValue3
  t4 := Try.underlying4
  a4 := Try.isAgg4
  z4 := Try.sizeOf4
  v4 := Try.zeroValue4
  t5 := Try.underlying5
  a5 := Try.isAgg5
  z5 := Try.sizeOf5
  v5 := Try.zeroValue5
  t9 := Try.underlying9
  a9 := Try.isAgg9
  z9 := Try.sizeOf9
  v9 := Try.zeroValue9
  t46 := Try.underlying60
  a46 := Try.isAgg60
  z46 := Try.sizeOf60
  v46 := Try.zeroValue60
  t51 := Try.underlying61
  a51 := Try.isAgg61
  z51 := Try.sizeOf61
  v51 := Try.zeroValue61
  t146 := Try.underlying62
  a146 := Try.isAgg62
  z146 := Try.sizeOf62
  v146 := Try.zeroValue62
  g1 := by kernel_rfl }
open Go.RowKit Go.Lib in
theorem Try.strings_Contains_one (s : ByteArray) (c : UInt8) (w : World) :
    Calls Try.prog 28 #[.string s, .string ⟨#[c]⟩] w fun e w' => e = .returned (.bool (decide (0 ≤ Lib.indexByte s.data.toList c))) ∧ w' = w := Any.strings_Contains_one Try.lays144 s c w
end Go.Proofs.Ytcgglamgemgeiaa
/- FStringsContains -/
namespace Go.Proofs.Ytcgglamgemgeiaa.Q
open Go.RowKit Go.Proofs.YtcgglamgemgeiaaW.PrintWords Go.Proofs.YtcgglamgemgeiaaW.PrintLast Go.Proofs.YtcgglamgemgeiaaW.PrintMore
attribute [local go_sem] max2_int min2_int max_two min_two max_three min_three max_four min_four   -- for this text's walks alone
set_option linter.unusedVariables false
set_option linter.unusedSimpArgs false

/-! ### strings_Contains: function 28 -/
/-- strings.Contains at one byte (only so is it called here), by the shelf's contract. -/
def strings_Contains.f (a0 : ByteArray) (a1 : ByteArray) : Option (Bool) := if a1.data = #[124] then some (decide (0 ≤ Lib.indexByte a0.data.toList 124)) else none
theorem strings_Contains.calls (a0 : ByteArray) (a1 : ByteArray) (r : Bool) (w : World) (h : strings_Contains.f a0 a1 = some r) :
    Calls Try.prog 28 #[.string a0, .string a1] w fun e w' => e = .returned (.bool r) ∧ Drawn0 w w' := by
  unfold strings_Contains.f at h
  by_cases e : a1.data = #[124]
  · rw [if_pos e] at h
    obtain rfl := Option.some.inj h
    obtain rfl : a1 = ⟨#[124]⟩ := by cases a1; simp at e; rw [e]
    refine (Try.strings_Contains_one a0 124 w).mono ?_
    rintro e w' ⟨rfl, rfl⟩
    exact ⟨rfl, 0, rfl⟩
  · rw [if_neg e] at h
    cases h

end Go.Proofs.Ytcgglamgemgeiaa.Q
/- Leq -/
namespace Go.Proofs.Ytcgglamgemgeiaa.Q
theorem leq_bytes : ∀ x y : List UInt8, (Op.bytesLess x y || x == y) = !(Op.bytesLess y x)
  | [], [] => rfl
  | [], _ :: _ => rfl
  | _ :: _, [] => rfl
  | a :: x, b :: y => by
    have ih := leq_bytes x y
    simp only [Op.bytesLess]
    rcases Nat.lt_trichotomy a.toNat b.toNat with h | h | h
    · have h1 : a < b := UInt8.lt_iff_toNat_lt.2 h
      have h2 : ¬ b < a := fun h3 => by have := UInt8.lt_iff_toNat_lt.1 h3; omega
      have h3 : (b == a) = false := by
        rw [beq_eq_false_iff_ne]; intro e; subst e; omega
      simp [h1, h2, h3]
    · obtain rfl : a = b := UInt8.toNat_inj.1 h
      have h1 : ¬ a < a := fun h3 => by have := UInt8.lt_iff_toNat_lt.1 h3; omega
      have e : ((a :: x) == (a :: y)) = (x == y) := by simp
      rw [e]; simp [h1, ih]
    · have h1 : b < a := UInt8.lt_iff_toNat_lt.2 h
      have h2 : ¬ a < b := fun h3 => by have := UInt8.lt_iff_toNat_lt.1 h3; omega
      have h3 : (a == b) = false := by
        rw [beq_eq_false_iff_ne]; intro e; subst e; omega
      have h4 : ((a :: x) == (b :: y)) = false := by
        rw [beq_eq_false_iff_ne]; intro e; injection e with e1 _; subst e1; omega
      simp [h1, h2, h3, h4]
end Go.Proofs.Ytcgglamgemgeiaa.Q
/- Copy -/
namespace Go.Proofs.Ytcgglamgemgeiaa.Q
open Go.RowKit Go.Proofs.YtcgglamgemgeiaaW.PrintWords Go.Proofs.YtcgglamgemgeiaaW.PrintLast
/-- zs laid over ys from place o on. -/
def lay (ys : List ByteArray) : Nat → List ByteArray → List ByteArray
  | _, [] => ys
  | o, z :: zs => lay (ys.set o z) (o + 1) zs
theorem lay_length (zs : List ByteArray) : ∀ (ys : List ByteArray) (o : Nat), (lay ys o zs).length = ys.length := by
  induction zs with
  | nil => intro ys o; rfl
  | cons z zs ih => intro ys o; rw [lay, ih, List.length_set]
/-- What copy(y[i+1:], y[i:]) makes of y. -/
def insLay (ys : List ByteArray) (i : Int) : List ByteArray := lay ys (i.toNat + 1) ((ys.drop i.toNat).take (ys.length - (i.toNat + 1)))
theorem gb_trans {a b c : World} {g : Nat} (h : a.grownBy b (some g)) (k : b.grownBy c (some g)) : a.grownBy c (some g) :=
  ⟨k.os.trans h.os, k.tape.trans h.tape, k.output.trans h.output, Nat.le_trans h.size k.size, fun i hi hne => (k.block i (Nat.lt_of_lt_of_le hi h.size) hne).trans (h.block i hi hne)⟩
theorem R_lay {ok : Nat → Prop} {base g cap : Nat} (zs : List ByteArray) : ∀ (W : World) (ys : List ByteArray) (o : Nat), Kd.R Kd.string 9 W base ok (.slice (some ⟨g, 0, none⟩) ys.length cap) ys →
    Kd.R Kd.string 9 (W.setCells g o (zs.map Value.string)) base ok (.slice (some ⟨g, 0, none⟩) ys.length cap) (lay ys o zs) ∧ W.grownBy (W.setCells g o (zs.map Value.string)) (some g) := by
  induction zs with
  | nil => intro W ys o h; exact ⟨h, World.grownBy.refl _ _⟩
  | cons z zs ih =>
    intro W ys o h
    obtain ⟨h1, h2⟩ := Kd.R_put h (o : Int) z
    rw [Int.toNat_natCast] at h1 h2
    have h3 := ih (W.setCell ⟨g, o, none⟩ (.string z)) (ys.set o z) (o + 1) (by rw [List.length_set]; exact h1)
    rw [List.length_set] at h3
    exact ⟨h3.1, gb_trans h2 h3.2⟩
theorem copy_step {P : Program} {ops : Array Oper} {o : Oper} {a : Act} {W : World} {K : Act → World → Prop} {Q : Exit → Act → World → Prop} {E : Prop} (hgd : o.guard = none) (d s : Operand) (t : TypeId)
    (ho : o.op = .call { callee := .builtin .copy, args := #[d, s], argTypes := #[t, t] }) (hu : P.underlying t = some (.slice 9)) (hsz : (P.info? 9).map (·.size) = some 1)
    {ok : Nat → Prop} {base g cap : Nat} {ys : List ByteArray} (HO : Kd.R Kd.string 9 W base ok (.slice (some ⟨g, 0, none⟩) ys.length cap) ys)
    (i j : Nat) (dp sp : Option Addr) (dLen dCap sLen sCap : Nat) (hd : a.eval d = .slice dp dLen dCap) (hs : a.eval s = .slice sp sLen sCap)
    (zs : List ByteArray) (hz : zs = (ys.drop i).take dLen) (hn : zs.length = Nat.min sLen dLen) (hfit : j + zs.length ≤ ys.length)
    (hpos : 0 < zs.length → dp = some ⟨g, j, none⟩ ∧ sp = some ⟨g, i, none⟩)
    (h : ∀ w', Kd.R Kd.string 9 w' base ok (.slice (some ⟨g, 0, none⟩) ys.length cap) (lay ys j zs) → W.grownBy w' (some g) → K (a.put o.dst (goInt zs.length)) w') :
    if Region.wanted o (yielded ops a.tmps) = true then Oper.wp P o a W K Q else E := by
  have hw : Region.wanted o (yielded ops a.tmps) = true := by simp [Region.wanted, hgd]
  rw [if_pos hw]
  by_cases h0 : zs.length = 0
  · have hrun := run_copy_none (P := P) W t t o.type 9 dp sp dLen dCap sLen sCap hu hsz (by rw [← hn]; exact h0)
    have hr := h W (by rw [List.eq_nil_of_length_eq_zero h0]; exact HO) (World.grownBy.refl _ _)
    rw [h0] at hr
    unfold Oper.wp
    simp [execOp, ho, resolve, invoke, builtin, hd, hs, hrun, Result.andThen]
    exact hr
  · obtain ⟨rfl, rfl⟩ := hpos (by omega)
    have hg : ∃ cur, W.heap[g]? = some (.cells cur 9 (0, 0)) ∧ ys.length ≤ cur.size ∧ ∀ k, k < ys.length → W.cell? ⟨g, k, none⟩ = some (.string (ys.getD k ByteArray.empty)) := by
      obtain ⟨inner, hown⟩ := Kd.R_own HO
      obtain ⟨hl, hv | ⟨g', cap', cur, hv, hb, hh, hc1, hc2, hc3, hc4⟩⟩ := hown
      · cases hv.1
      · injection hv with hv1 hv2 hv3
        injection hv1 with hv1
        injection hv1 with hv1
        subst hv1
        refine ⟨cur, hh, by rw [hc3]; show ys.length ≤ cap' * 1; omega, fun k hk => ?_⟩
        obtain ⟨ad, e, hx⟩ := Kd.at_string (Kd.R_reads' HO).2.2 (k : Int) (by omega) (by omega)
        injection e with e
        subst e
        rw [Int.toNat_natCast] at hx
        have ea : (⟨g, 0, none⟩ : Addr).add k = ⟨g, k, none⟩ := by
          by_cases h0 : k = 0 <;> simp [Addr.add, h0]
        rw [ea] at hx
        rw [hx]; unfold rdOf; rw [Int.toNat_natCast]
    obtain ⟨cur, hh, hcs, hcell⟩ := hg
    have hzl : ∀ k, k < zs.length → i + k < ys.length := fun k hk => by
      have : zs.length ≤ (ys.drop i).length := by rw [hz, List.length_take]; exact Nat.min_le_right _ _
      rw [List.length_drop] at this; omega
    have hsrc : ∀ k v, (zs.map Value.string)[k]? = some v → W.cell? ((⟨g, i, none⟩ : Addr).add k) = some v := by
      intro k v hk
      have hkl : k < zs.length := by have := (List.getElem?_eq_some_iff.1 hk).1; simpa using this
      have ea : (⟨g, i, none⟩ : Addr).add k = ⟨g, i + k, none⟩ := by
        by_cases h0 : k = 0 <;> simp [Addr.add, h0]
      rw [ea, hcell (i + k) (hzl k hkl)]
      rw [List.getElem?_map] at hk
      have e1 : zs[k]? = (ys)[i + k]? := by
        rw [hz, List.getElem?_take, List.getElem?_drop, if_pos]
        have : zs.length ≤ dLen := by rw [hz, List.length_take]; exact Nat.min_le_left _ _
        omega
      rw [e1] at hk
      rw [List.getD_eq_getElem?_getD]
      cases hq : ys[i + k]? with
      | none => rw [hq] at hk; cases hk
      | some q => rw [hq] at hk; simpa using hk
    have hrun := run_copy_cells (P := P) W t t o.type 9 g j dLen dCap ⟨g, i, none⟩ sLen sCap (zs.map Value.string) hu hsz (by rw [List.length_map]; exact hn) hsrc
      (fun k hk => by rw [hcell (j + k) (by rw [List.length_map] at hk; omega)]; rfl)
      (fun k hk => by simp [World.frozen?, hh]) (fun v hv => by obtain ⟨z, _, rfl⟩ := List.mem_map.1 hv; rfl)
    obtain ⟨r1, r2⟩ := R_lay zs W ys j HO
    have hr := h _ r1 r2
    rw [List.length_map] at hrun
    unfold Oper.wp
    simp [execOp, ho, resolve, invoke, builtin, hd, hs, hrun, Result.andThen]
    exact hr
theorem own_at {ok : Nat → Prop} {base n c : Nat} {W : World} {A : Option Addr} {xs : List ByteArray} (h : Kd.R Kd.string 9 W base ok (.slice A n c) xs) (h0 : 0 < xs.length) : ∃ g, A = some ⟨g, 0, none⟩ := by
  obtain ⟨inner, hown⟩ := Kd.R_own h
  obtain ⟨hl, hv | ⟨g', cap', cur, hv, _⟩⟩ := hown
  · have h1 := hv.1
    have h2 := hv.2
    omega
  · injection hv with hv1 _ _
    exact ⟨g', hv1⟩
end Go.Proofs.Ytcgglamgemgeiaa.Q
/- Short -/
namespace Go.Proofs.Ytcgglamgemgeiaa.Q
open Go.RowKit Go.Proofs.YtcgglamgemgeiaaW.PrintWords Go.Proofs.YtcgglamgemgeiaaW.PrintLast
set_option linter.unusedVariables false
section
variable {P : Program} {ops : Array Oper} {Q : Exit → Act → World → Prop} {md : Region.Mode} {S : World → Prop} {ds : List Nat} {T : Bool × List (List Nat × List Nat)}
/-- A wanted operation that yields in every world. -/
theorem pw_ (i : Nat) (N : Tmp) {oi : Oper} {v : Value} {fuel : Nat} {l l' : Array Bool} {a a' : Act} {w : World} (HT_ : rtab md ops = T)
    (hl : l.setIfInBounds i true = l' := by simp only [List.setIfInBounds_toArray, List.set_cons_zero, List.set_cons_succ]; rfl)
    (hi : ops[i]? = some oi := by rfl) (hN : oi.dst = some N := by rfl) (hc : anyT T l.toList l'.toList i = true := by kernel_rfl)
    (hQ : ∀ c a w, Q (.panic c) (a.put oi.dst v) w → Q (.panic c) a w := by exact fun _ _ _ h => h) (hw : Region.wanted oi (yielded ops a.tmps) = true := by rfl)
    (hy : ∀ w', (execOp a.eval oi).run P w' = .ok (.value v) w' := by intro w'; go_simp; with_reducible rfl)
    (ha : a.put (some N) v = a' := by simp only [Act.put, List.setIfInBounds_toArray, List.set_cons_zero, List.set_cons_succ, i64_w, i32_w]; rfl)
    (h : wpAnyLast P md ops Q S ds fuel l' a' w) : wpAnyLast P md ops Q S ds (fuel + 1) l a w :=
  pure_ l' hi hN (any_of HT_ hc) hQ (Or.inl ⟨hw, hy⟩) ha h
/-- An operation that is not wanted. -/
theorem pn_ (i : Nat) (N : Tmp) {oi : Oper} {fuel : Nat} {l l' : Array Bool} {a a' : Act} {w : World} (HT_ : rtab md ops = T)
    (hl : l.setIfInBounds i true = l' := by simp only [List.setIfInBounds_toArray, List.set_cons_zero, List.set_cons_succ]; rfl)
    (hi : ops[i]? = some oi := by rfl) (hN : oi.dst = some N := by rfl) (hc : anyT T l.toList l'.toList i = true := by kernel_rfl)
    (hQ : ∀ c a w, Q (.panic c) (a.put oi.dst undef) w → Q (.panic c) a w := by exact fun _ _ _ h => h) (hw : Region.wanted oi (yielded ops a.tmps) = false := by rfl)
    (ha : a.put (some N) undef = a' := by simp only [Act.put, List.setIfInBounds_toArray, List.set_cons_zero, List.set_cons_succ, i64_w, i32_w]; rfl)
    (h : wpAnyLast P md ops Q S ds fuel l' a' w) : wpAnyLast P md ops Q S ds (fuel + 1) l a w :=
  pure_ l' hi hN (any_of HT_ hc) hQ (Or.inr ⟨hw, rfl⟩) ha h
end
end Go.Proofs.Ytcgglamgemgeiaa.Q
/- FFeatureInsert -/
namespace Go.Proofs.Ytcgglamgemgeiaa.Q
open Go.RowKit Go.Proofs.YtcgglamgemgeiaaW.PrintWords Go.Proofs.YtcgglamgemgeiaaW.PrintLast Go.Proofs.YtcgglamgemgeiaaW.PrintMore
attribute [local go_sem] max2_int min2_int max_two min_two max_three min_three max_four min_four   -- for this text's walks alone
set_option linter.unusedVariables false
set_option linter.unusedSimpArgs false

/-! ### feature_insert: function 29 -/
mutual
def feature_insert.l0 : Nat → List ByteArray → ByteArray → Int → Option (List ByteArray)
  | 0, _, _, _ => none
  | k + 1, x0, x1, x5 => if x5 > 0 then (if 0 ≤ (wrap64 (x5 - 1)) then (if (wrap64 (x5 - 1)) < (x0.length : Int) then (feature_insert.j1 k x0 x1 x5 (!(Op.bytesLess ((rdOf ByteArray.empty x0 (wrap64 (x5 - 1))).toList) x1.toList))) else (none)) else (none)) else (feature_insert.j1 k x0 x1 x5 false)
def feature_insert.j1 : Nat → List ByteArray → ByteArray → Int → Bool → Option (List ByteArray)
  | 0, _, _, _, _ => none
  | k + 1, x0, x1, x5, x18 => if x18 = true then (feature_insert.l0 k x0 x1 (wrap64 (x5 - 1))) else (if x5 < (x0.length : Int) then (if 0 ≤ x5 then (feature_insert.j2 k x0 x1 x5 ((rdOf ByteArray.empty x0 x5).toList == x1.toList)) else (none)) else (feature_insert.j2 k x0 x1 x5 false))
def feature_insert.j2 : Nat → List ByteArray → ByteArray → Int → Bool → Option (List ByteArray)
  | 0, _, _, _, _ => none
  | k + 1, x0, x1, x5, x32 => if x32 = true then (some x0) else (if x0.length < 8796093022208 then ((some (x0 ++ [(⟨#[]⟩ : ByteArray)] : List ByteArray)).bind fun y119 => (if 0 ≤ (wrap64 (x5 + 1)) then (if (wrap64 (x5 + 1)) ≤ (y119.length : Int) then (if 0 ≤ x5 then (if x5 ≤ (y119.length : Int) then (if x5 < (y119.length : Int) then (some ((insLay y119 x5).set (x5 : Int).toNat x1)) else (none)) else (none)) else (none)) else (none)) else (none))) else (none))
end
def feature_insert.f (k : Nat) (l0 : List ByteArray) (a1 : ByteArray) : Option (List ByteArray) := feature_insert.l0 k l0 a1 (l0.length : Int)
theorem feature_insert.mono_l : ∀ k, (∀ y0 y1 y2, LeO (feature_insert.l0 k y0 y1 y2) (feature_insert.l0 (k + 1) y0 y1 y2)) ∧ (∀ y0 y1 y2 y3, LeO (feature_insert.j1 k y0 y1 y2 y3) (feature_insert.j1 (k + 1) y0 y1 y2 y3)) ∧ (∀ y0 y1 y2 y3, LeO (feature_insert.j2 k y0 y1 y2 y3) (feature_insert.j2 (k + 1) y0 y1 y2 y3))
  | 0 => ⟨fun _ _ _ r h => by simp [feature_insert.l0] at h, fun _ _ _ _ r h => by simp [feature_insert.j1] at h, fun _ _ _ _ r h => by simp [feature_insert.j2] at h⟩
  | k + 1 => by
    obtain ⟨ih0, ih1, ih2⟩ := feature_insert.mono_l k
    refine ⟨?_, ?_, ?_⟩
    · intro y0 y1 y2
      unfold feature_insert.l0
      repeat' first
      | (with_reducible exact ih0 _ _ _)
      | (with_reducible exact ih1 _ _ _ _)
      | (with_reducible exact ih2 _ _ _ _)
      | (with_reducible exact LeO.refl _)
      | (with_reducible exact LeO.none _)
      | (with_reducible refine LeO.ite ?_ ?_)
      | (with_reducible refine LeO.bind ?_ (fun _ => ?_))
      | exact ih0 _ _ _
      | exact ih1 _ _ _ _
      | exact ih2 _ _ _ _
      | exact LeO.none _
      | refine LeO.ite ?_ ?_
      | refine LeO.bind ?_ (fun _ => ?_)
    · intro y0 y1 y2 y3
      unfold feature_insert.j1
      repeat' first
      | (with_reducible exact ih0 _ _ _)
      | (with_reducible exact ih1 _ _ _ _)
      | (with_reducible exact ih2 _ _ _ _)
      | (with_reducible exact LeO.refl _)
      | (with_reducible exact LeO.none _)
      | (with_reducible refine LeO.ite ?_ ?_)
      | (with_reducible refine LeO.bind ?_ (fun _ => ?_))
      | exact ih0 _ _ _
      | exact ih1 _ _ _ _
      | exact ih2 _ _ _ _
      | exact LeO.none _
      | refine LeO.ite ?_ ?_
      | refine LeO.bind ?_ (fun _ => ?_)
    · intro y0 y1 y2 y3
      unfold feature_insert.j2
      repeat' first
      | (with_reducible exact ih0 _ _ _)
      | (with_reducible exact ih1 _ _ _ _)
      | (with_reducible exact ih2 _ _ _ _)
      | (with_reducible exact LeO.refl _)
      | (with_reducible exact LeO.none _)
      | (with_reducible refine LeO.ite ?_ ?_)
      | (with_reducible refine LeO.bind ?_ (fun _ => ?_))
      | exact ih0 _ _ _
      | exact ih1 _ _ _ _
      | exact ih2 _ _ _ _
      | exact LeO.none _
      | refine LeO.ite ?_ ?_
      | refine LeO.bind ?_ (fun _ => ?_)
theorem feature_insert.mono : ∀ a0 a1 k, LeO (feature_insert.f k a0 a1) (feature_insert.f (k + 1) a0 a1) := by
  intro a0 a1 k
  obtain ⟨ih0, ih1, ih2⟩ := feature_insert.mono_l k
  unfold feature_insert.f
  repeat' first
      | (with_reducible exact ih0 _ _ _)
      | (with_reducible exact ih1 _ _ _ _)
      | (with_reducible exact ih2 _ _ _ _)
      | (with_reducible exact LeO.refl _)
      | (with_reducible exact LeO.none _)
      | (with_reducible refine LeO.ite ?_ ?_)
      | (with_reducible refine LeO.bind ?_ (fun _ => ?_))
      | exact ih0 _ _ _
      | exact ih1 _ _ _ _
      | exact ih2 _ _ _ _
      | exact LeO.none _
      | refine LeO.ite ?_ ?_
      | refine LeO.bind ?_ (fun _ => ?_)
set_option maxHeartbeats 8000000 in
set_option maxRecDepth 100000 in
theorem feature_insert.calls (k : Nat) (P0_ : Nat → Prop) (u9000_ : Value) (l0 : List ByteArray) (a1 : ByteArray) (r : List ByteArray) (w0 w : World) (hB : Below w0.heap.size w0 w) (ho0 : Kd.R Kd.string 9 w w0.heap.size P0_ u9000_ l0) (h : feature_insert.f k l0 a1 = some r) :
    Calls Try.prog 29 #[u9000_, .string a1] w fun e w' => ∃ v0_ : Value, e = .returned (v0_) ∧ Kd.R Kd.string 9 w' w0.heap.size (fun k_ => (P0_ k_ ∨ w.heap.size ≤ k_)) v0_ r ∧ Below w0.heap.size w0 w' ∧ Kept w w' (fun k_ => P0_ k_) := by
  have HO0 := Aside0.mk (show Kd.R Kd.string 9 w w0.heap.size (fun k_ => (P0_ k_ ∨ w.heap.size ≤ k_)) u9000_ l0 from Kd.R_mono ho0 (fun k_ hk => (.inl hk)))
  have HK := Aside0.mk (Kept.refl w (fun k_ => P0_ k_))
  have HW0 := Aside0.mk hB.size
  have HB := Aside0.mk hB
  clear hB
  have H : (feature_insert.l0 k l0 a1 (l0.length : Int)) = some r := h
  clear h
  have H' := Aside0.mk H
  clear H
  obtain ⟨Ao3, co3, eo3⟩ := Kd.R_slice HO0.out
  subst eo3
  go_enter Try.func29, Try.ntmps29
  go_wp2
  repeat (go_quiet (fail); try go_wp2)
  go_loopg [5] k (fun kq v5 w' => ∃ (x5_1 : Int), v5 = .int .i64 x5_1 ∧ Aside0 (feature_insert.l0 kq l0 a1 x5_1 = some r) ∧ Aside0 (kq ≤ k) ∧ Aside0 (Kd.R Kd.string 9 w' w0.heap.size (fun k_ => (P0_ k_ ∨ w.heap.size ≤ k_)) (.slice Ao3 l0.length co3) l0) ∧ Aside0 (Kept w w' (fun k_ => P0_ k_)) ∧ Aside0 (Below w0.heap.size w0 w'))
  case atStart => exact ⟨((l0.length : Int)), (by first | rfl | (simp; done) | (simp [*]; done)), H', ⟨Nat.le_refl _⟩, ⟨by (with_reducible repeat (first | apply Kd.R_alloc | apply Kd.R_drewN | apply Kd.R_drew)); exact HO0.out⟩, ⟨by repeat (first | (with_reducible first | exact HK.out | apply Kept.alloc | apply Kept.drewN | apply Kept.drew) | exact HK.out)⟩, ⟨by repeat (first | (with_reducible first | exact HB.out | apply below_alloc | apply pw_below_drewN | apply below_drew1) | exact HB.out)⟩⟩
  case round =>
    clear H'
    try clear c2
    try clear p2
    obtain ⟨x5_1, rfl, HA, HK1, HO_0, HK, HB⟩ := hrel
    cases gk with
    | zero => exact absurd HA.out (by simp [feature_insert.l0])
    | succ k1 =>
      have H := HA.out
      clear HA
      simp only [feature_insert.l0] at H
      have HC4 := Aside0.mk H
      clear H
      go_upto_region 2 with (fail)
      repeat (go_quiet (fail); go_upto_region 2 with (fail))
      go_cut [18] (fun v18 wc => ∃ (kq : Nat) (x18_3 : Bool), v18 = .bool x18_3 ∧ Aside0 (feature_insert.j1 kq l0 a1 x5_1 x18_3 = some r) ∧ Aside0 (kq ≤ k1) ∧ Aside0 (Kd.R Kd.string 9 wc w0.heap.size (fun k_ => (P0_ k_ ∨ w.heap.size ≤ k_)) (.slice Ao3 l0.length co3) l0) ∧ Aside0 (Kept w wc (fun k_ => P0_ k_)) ∧ Aside0 (Below w0.heap.size w0 wc))
      case first =>
        have H := HC4.out
        clear HC4
        by_cases c5 : x5_1 > 0
        · rw [if_pos c5] at H
          have c5b0 : decide (0 < x5_1) = true := decide_eq_true c5
          clear c5
          (first | rw [c5b0] | (simp only [i64_w, i32_w]; rw [c5b0]) | skip)
          obtain ⟨ji6, hji6⟩ : ∃ j_ : Int, (wrap64 (x5_1 - 1)) = j_ := ⟨_, rfl⟩
          replace H : (if 0 ≤ (ji6) then (if (ji6) < (l0.length : Int) then (feature_insert.j1 k1 l0 a1 x5_1 (!(Op.bytesLess ((rdOf ByteArray.empty l0 (ji6)).toList) a1.toList))) else (none)) else (none)) = some r := by first | (rw [hji6] at H; exact H) | (simp only [hji6] at H ⊢; exact H)
          have hji6w : (IntKind.i64.wrap (x5_1 - 1)) = ji6 := (i64_w _).trans hji6
          by_cases c7 : 0 ≤ (ji6)
          · rw [if_pos c7] at H
            have c7b0 : decide (0 ≤ (ji6)) = true := decide_eq_true c7
            clear c7
            by_cases c8 : (ji6) < (l0.length : Int)
            · rw [if_pos c8] at H
              have c8b0 : decide ((ji6) < (l0.length : Int)) = true := decide_eq_true c8
              clear c8
              have H' := Aside0.mk H
              clear H
              have p117 : 0 ≤ ((ji6) : Int) := of_decide_eq_true (by first | (with_reducible assumption) | assumption)
              have q117 : (ji6) < (l0.length : Int) := of_decide_eq_true (by first | (with_reducible assumption) | assumption)
              obtain ⟨ad117, e117, hx117_0⟩ := Kd.at_string (Kd.R_reads' HO_0.out).2.2 (ji6) p117 q117
              cases e117
              replace p117 := eq_true p117
              replace q117 := eq_true q117
              go_wp2
              repeat (go_quiet (fail); try go_wp2)
              go_meet
              case rel => exact ⟨_, (!(Op.bytesLess ((rdOf ByteArray.empty l0 (ji6)).toList) a1.toList)), (by first | rfl | exact congrArg Value.bool (leq_bytes _ _) | (simp only [← hji6]; exact congrArg Value.bool (leq_bytes _ _))), H', ⟨by have := HK1.out; first | omega | exact Nat.le_refl _⟩, ⟨by (with_reducible repeat (first | apply Kd.R_alloc | apply Kd.R_drewN | apply Kd.R_drew)); exact HO_0.out⟩, ⟨by repeat (first | (with_reducible first | exact HK.out | apply Kept.alloc | apply Kept.drewN | apply Kept.drew) | exact HK.out)⟩, ⟨by repeat (first | (with_reducible first | exact HB.out | apply below_alloc | apply pw_below_drewN | apply below_drew1) | exact HB.out)⟩⟩
            · rw [if_neg c8] at H
              exact absurd H (by simp)
          · rw [if_neg c7] at H
            exact absurd H (by simp)
        · rw [if_neg c5] at H
          have c5b0 : decide (0 < x5_1) = false := decide_eq_false c5
          clear c5
          (first | rw [c5b0] | (simp only [i64_w, i32_w]; rw [c5b0]) | skip)
          have H' := Aside0.mk H
          clear H
          go_wp2
          repeat (go_quiet (fail); try go_wp2)
          go_meet
          case rel => exact ⟨_, (false), (by first | rfl | (simp; done) | (simp [*]; done)), H', ⟨by have := HK1.out; first | omega | exact Nat.le_refl _⟩, ⟨by (with_reducible repeat (first | apply Kd.R_alloc | apply Kd.R_drewN | apply Kd.R_drew)); exact HO_0.out⟩, ⟨by repeat (first | (with_reducible first | exact HK.out | apply Kept.alloc | apply Kept.drewN | apply Kept.drew) | exact HK.out)⟩, ⟨by repeat (first | (with_reducible first | exact HB.out | apply below_alloc | apply pw_below_drewN | apply below_drew1) | exact HB.out)⟩⟩
      case rest =>
        clear HC4
        try clear p1
        try clear q1
        try clear hx1
        try clear c2
        try clear p2
        try clear c5
        try clear c5b0
        try clear p6
        try clear c7
        try clear c7b0
        try clear c8
        try clear c8b0
        try clear hx117_0
        try clear p117
        try clear p2
        try clear q117
        obtain ⟨kq, x18_3, rfl, HA, HJ3, HO_0, HK, HB⟩ := hcut
        cases kq with
        | zero => exact absurd HA.out (by simp [feature_insert.j1])
        | succ kj3 =>
          have H := HA.out
          clear HA
          simp only [feature_insert.j1] at H
          by_cases c9 : x18_3 = true
          · subst c9
            have H1 : (feature_insert.l0 kj3 l0 a1 (wrap64 (x5_1 - 1))) = some r := by rw [if_pos rfl] at H; exact H
            clear H
            have H := H1
            clear H1
            have H' := Aside0.mk H
            clear H
            go_wp2
            repeat (go_quiet (fail); try go_wp2)
            go_roundg kj3
            case measure => have := HK1.out; have := HJ3.out; omega
            case rel => exact ⟨(wrap64 (x5_1 - 1)), (by first | rfl | (simp; done) | (simp [*]; done)), H', ⟨by have := HK1.out; have := HJ3.out; omega⟩, ⟨by (with_reducible repeat (first | apply Kd.R_alloc | apply Kd.R_drewN | apply Kd.R_drew)); exact HO_0.out⟩, ⟨by repeat (first | (with_reducible first | exact HK.out | apply Kept.alloc | apply Kept.drewN | apply Kept.drew) | exact HK.out)⟩, ⟨by repeat (first | (with_reducible first | exact HB.out | apply below_alloc | apply pw_below_drewN | apply below_drew1) | exact HB.out)⟩⟩
          · replace c9 := Bool.eq_false_iff.mpr c9
            subst c9
            have H1 : (if x5_1 < (l0.length : Int) then (if 0 ≤ x5_1 then (feature_insert.j2 kj3 l0 a1 x5_1 ((rdOf ByteArray.empty l0 x5_1).toList == a1.toList)) else (none)) else (feature_insert.j2 kj3 l0 a1 x5_1 false)) = some r := by rw [if_neg (show ¬ (false = true) by decide)] at H; exact H
            clear H
            have H := H1
            clear H1
            have HC10 := Aside0.mk H
            clear H
            go_upto_region 4 with (fail)
            repeat (go_quiet (fail); go_upto_region 4 with (fail))
            go_cut [32] (fun v32 wc => ∃ (kq : Nat) (x32_9 : Bool), v32 = .bool x32_9 ∧ Aside0 (feature_insert.j2 kq l0 a1 x5_1 x32_9 = some r) ∧ Aside0 (kq ≤ kj3) ∧ Aside0 (Kd.R Kd.string 9 wc w0.heap.size (fun k_ => (P0_ k_ ∨ w.heap.size ≤ k_)) (.slice Ao3 l0.length co3) l0) ∧ Aside0 (Kept w wc (fun k_ => P0_ k_)) ∧ Aside0 (Below w0.heap.size w0 wc))
            case first =>
              have H := HC10.out
              clear HC10
              by_cases c11 : x5_1 < (l0.length : Int)
              · rw [if_pos c11] at H
                have c11b0 : decide (x5_1 < (l0.length : Int)) = true := decide_eq_true c11
                clear c11
                (first | rw [c11b0] | (simp only [i64_w, i32_w]; rw [c11b0]) | skip)
                by_cases c12 : 0 ≤ x5_1
                · rw [if_pos c12] at H
                  have c12b0 : decide (0 ≤ x5_1) = true := decide_eq_true c12
                  clear c12
                  have H' := Aside0.mk H
                  clear H
                  have p118 : 0 ≤ (x5_1 : Int) := of_decide_eq_true (by first | (with_reducible assumption) | assumption)
                  have q118 : x5_1 < (l0.length : Int) := of_decide_eq_true (by first | (with_reducible assumption) | assumption)
                  obtain ⟨ad118, e118, hx118_0⟩ := Kd.at_string (Kd.R_reads' HO_0.out).2.2 x5_1 p118 q118
                  cases e118
                  replace p118 := eq_true p118
                  replace q118 := eq_true q118
                  go_wp2
                  repeat (go_quiet (fail); try go_wp2)
                  go_meet
                  case rel => exact ⟨_, (((rdOf ByteArray.empty l0 x5_1).toList == a1.toList)), (by first | rfl | (simp; done) | (simp [*]; done)), H', ⟨by have := HK1.out; have := HJ3.out; first | omega | exact Nat.le_refl _⟩, ⟨by (with_reducible repeat (first | apply Kd.R_alloc | apply Kd.R_drewN | apply Kd.R_drew)); exact HO_0.out⟩, ⟨by repeat (first | (with_reducible first | exact HK.out | apply Kept.alloc | apply Kept.drewN | apply Kept.drew) | exact HK.out)⟩, ⟨by repeat (first | (with_reducible first | exact HB.out | apply below_alloc | apply pw_below_drewN | apply below_drew1) | exact HB.out)⟩⟩
                · rw [if_neg c12] at H
                  exact absurd H (by simp)
              · rw [if_neg c11] at H
                have c11b0 : decide (x5_1 < (l0.length : Int)) = false := decide_eq_false c11
                clear c11
                (first | rw [c11b0] | (simp only [i64_w, i32_w]; rw [c11b0]) | skip)
                have H' := Aside0.mk H
                clear H
                go_wp2
                repeat (go_quiet (fail); try go_wp2)
                go_meet
                case rel => exact ⟨_, (false), (by first | rfl | (simp; done) | (simp [*]; done)), H', ⟨by have := HK1.out; have := HJ3.out; first | omega | exact Nat.le_refl _⟩, ⟨by (with_reducible repeat (first | apply Kd.R_alloc | apply Kd.R_drewN | apply Kd.R_drew)); exact HO_0.out⟩, ⟨by repeat (first | (with_reducible first | exact HK.out | apply Kept.alloc | apply Kept.drewN | apply Kept.drew) | exact HK.out)⟩, ⟨by repeat (first | (with_reducible first | exact HB.out | apply below_alloc | apply pw_below_drewN | apply below_drew1) | exact HB.out)⟩⟩
            case rest =>
              clear HC10
              try clear c1
              try clear p1
              try clear q1
              try clear hx1
              try clear c2
              try clear p2
              try clear c5
              try clear c5b0
              try clear p6
              try clear c7
              try clear c7b0
              try clear c8
              try clear c8b0
              try clear c9
              try clear c11
              try clear c11b0
              try clear p11
              try clear q11
              try clear hx11
              try clear c12
              try clear c12b0
              try clear hx117_0
              try clear hx118_0
              try clear p1
              try clear p117
              try clear p118
              try clear p2
              try clear p6
              try clear q1
              try clear q117
              try clear q118
              obtain ⟨kq, x32_9, rfl, HA, HJ9, HO_0, HK, HB⟩ := hcut
              cases kq with
              | zero => exact absurd HA.out (by simp [feature_insert.j2])
              | succ kj9 =>
                have H := HA.out
                clear HA
                simp only [feature_insert.j2] at H
                by_cases c13 : x32_9 = true
                · subst c13
                  have H1 : (some l0) = some r := by rw [if_pos rfl] at H; exact H
                  clear H
                  have H := H1
                  clear H1
                  obtain rfl := Option.some.inj H
                  go_wp2
                  repeat (go_quiet (fail); try go_wp2)
                  go_ret
                  exact ⟨_, by first | rfl | (simp [errW_none, errW_some] <;> rfl) | (simp [*, errW_none, errW_some] <;> rfl), by (with_reducible repeat (first | apply Kd.R_alloc | apply Kd.R_drewN | apply Kd.R_drew)); exact HO_0.out, by repeat (first | (with_reducible first | exact HB.out | apply below_alloc | apply pw_below_drewN | apply below_drew1) | exact HB.out), by repeat (first | (with_reducible first | exact HK.out | apply Kept.alloc | apply Kept.drewN | apply Kept.drew) | exact HK.out)⟩
                · replace c13 := Bool.eq_false_iff.mpr c13
                  subst c13
                  have H1 : (if l0.length < 8796093022208 then ((some (l0 ++ [(⟨#[]⟩ : ByteArray)] : List ByteArray)).bind fun y119 => (if 0 ≤ (wrap64 (x5_1 + 1)) then (if (wrap64 (x5_1 + 1)) ≤ (y119.length : Int) then (if 0 ≤ x5_1 then (if x5_1 ≤ (y119.length : Int) then (if x5_1 < (y119.length : Int) then (some ((insLay y119 x5_1).set (x5_1 : Int).toNat a1)) else (none)) else (none)) else (none)) else (none)) else (none))) else (none)) = some r := by rw [if_neg (show ¬ (false = true) by decide)] at H; exact H
                  clear H
                  have H := H1
                  clear H1
                  by_cases c14 : l0.length < 8796093022208
                  · rw [if_pos c14] at H
                    have LMc14 := Aside0.mk c14
                    clear c14
                    obtain ⟨y119, hy119⟩ : ∃ y_ : List ByteArray, y_ = (l0 ++ [(⟨#[]⟩ : ByteArray)]) := ⟨_, rfl⟩
                    replace H : (if 0 ≤ (wrap64 (x5_1 + 1)) then (if (wrap64 (x5_1 + 1)) ≤ (y119.length : Int) then (if 0 ≤ x5_1 then (if x5_1 ≤ (y119.length : Int) then (if x5_1 < (y119.length : Int) then (some ((insLay y119 x5_1).set (x5_1 : Int).toNat a1)) else (none)) else (none)) else (none)) else (none)) else (none)) = some r := by first | (rw [hy119]; with_reducible exact H) | (have H2_ := (Option.bind_some _ _).symm.trans H; rw [hy119]; with_reducible exact H2_) | (have H2_ := (Option.bind_some _ _).symm.trans H; with_reducible exact H2_) | with_reducible exact H | (rw [hy119]; exact H) | exact H
                    have Ny119 := Aside0.mk hy119
                    clear hy119
                    obtain ⟨ji15, hji15⟩ : ∃ j_ : Int, (wrap64 (x5_1 + 1)) = j_ := ⟨_, rfl⟩
                    replace H : (if 0 ≤ (ji15) then (if (ji15) ≤ (y119.length : Int) then (if 0 ≤ x5_1 then (if x5_1 ≤ (y119.length : Int) then (if x5_1 < (y119.length : Int) then (some ((insLay y119 x5_1).set (x5_1 : Int).toNat a1)) else (none)) else (none)) else (none)) else (none)) else (none)) = some r := by first | (rw [hji15] at H; exact H) | (simp only [hji15] at H ⊢; exact H)
                    have hji15w : (IntKind.i64.wrap (x5_1 + 1)) = ji15 := (i64_w _).trans hji15
                    by_cases c16 : 0 ≤ (ji15)
                    · rw [if_pos c16] at H
                      have c16b0 := eq_true c16
                      have c16b1 : decide (0 ≤ (ji15)) = true := decide_eq_true c16
                      clear c16
                      by_cases c17 : (ji15) ≤ (y119.length : Int)
                      · rw [if_pos c17] at H
                        have c17b0 := eq_true c17
                        have c17b1 : decide ((ji15) ≤ (y119.length : Int)) = true := decide_eq_true c17
                        clear c17
                        obtain ⟨y122, hy122⟩ : ∃ y_ : List ByteArray, y_ = (y119.drop ((ji15) : Int).toNat) := ⟨_, rfl⟩
                        replace H : (if 0 ≤ x5_1 then (if x5_1 ≤ (y119.length : Int) then (if x5_1 < (y119.length : Int) then (some ((insLay y119 x5_1).set (x5_1 : Int).toNat a1)) else (none)) else (none)) else (none)) = some r := by first | (rw [hy122]; with_reducible exact H) | (have H2_ := (Option.bind_some _ _).symm.trans H; rw [hy122]; with_reducible exact H2_) | (have H2_ := (Option.bind_some _ _).symm.trans H; with_reducible exact H2_) | with_reducible exact H | (rw [hy122]; exact H) | exact H
                        have Ny122 := Aside0.mk hy122
                        clear hy122
                        by_cases c18 : 0 ≤ x5_1
                        · rw [if_pos c18] at H
                          have c18b0 := eq_true c18
                          have c18b1 : decide (0 ≤ x5_1) = true := decide_eq_true c18
                          clear c18
                          by_cases c19 : x5_1 ≤ (y119.length : Int)
                          · rw [if_pos c19] at H
                            have c19b0 := eq_true c19
                            have c19b1 : decide (x5_1 ≤ (y119.length : Int)) = true := decide_eq_true c19
                            clear c19
                            obtain ⟨y126, hy126⟩ : ∃ y_ : List ByteArray, y_ = (y119.drop (x5_1 : Int).toNat) := ⟨_, rfl⟩
                            replace H : (if x5_1 < (y119.length : Int) then (some ((insLay y119 x5_1).set (x5_1 : Int).toNat a1)) else (none)) = some r := by first | (rw [hy126]; with_reducible exact H) | (have H2_ := (Option.bind_some _ _).symm.trans H; rw [hy126]; with_reducible exact H2_) | (have H2_ := (Option.bind_some _ _).symm.trans H; with_reducible exact H2_) | with_reducible exact H | (rw [hy126]; exact H) | exact H
                            have Ny126 := Aside0.mk hy126
                            clear hy126
                            by_cases c20 : x5_1 < (y119.length : Int)
                            · rw [if_pos c20] at H
                              have c20b0 : decide (x5_1 < (y119.length : Int)) = true := decide_eq_true c20
                              clear c20
                              obtain ⟨y130, hy130⟩ : ∃ y_ : List ByteArray, y_ = ((insLay y119 x5_1).set (x5_1 : Int).toNat a1) := ⟨_, rfl⟩
                              replace H : (some y130) = some r := by first | (rw [hy130]; with_reducible exact H) | (have H2_ := (Option.bind_some _ _).symm.trans H; rw [hy130]; with_reducible exact H2_) | (have H2_ := (Option.bind_some _ _).symm.trans H; with_reducible exact H2_) | with_reducible exact H | (rw [hy130]; exact H) | exact H
                              have Ny130 := Aside0.mk hy130
                              clear hy130
                              obtain rfl := Option.some.inj H
                              go_upto_region 7 with (first | ((with_reducible refine gate_builtin (b := .append) (xs := #[.tmp 34, .tmp 35]) rfl ?_); at_builtin; refine Kd.R_append Kd.string (w0 := w0) w0.heap.size rfl (.tmp 34) (.tmp 35) 23 9 (.string ⟨#[]⟩) 16 rfl Try.underlying23 info9 rfl (by decide) (by omega) (.slice Ao3 l0.length co3) l0 (⟨#[]⟩ : ByteArray) [.string (⟨#[]⟩ : ByteArray)] (fun k_ => (P0_ k_ ∨ w.heap.size ≤ k_)) (fun _ => False) rfl rfl ?aP (fun _ hk => hk.elim) ?aF ?aO ?aB ?aS ?aL ?_; (case aP => exact rfl); (case aB => exact (by repeat (first | (with_reducible first | exact HB.out | apply below_alloc | apply pw_below_drewN | apply below_drew1) | exact HB.out))); (case aF => exact (fun k_ hk => (.inr (Nat.le_trans (by first | exact HK.out.1 | exact (show Kept w _ (fun k_ => P0_ k_) from by repeat (first | (with_reducible first | exact HK.out | apply Kept.alloc | apply Kept.drewN | apply Kept.drew) | exact HK.out)).1) hk)))); (case aO => exact (by (with_reducible repeat (first | apply Kd.R_alloc | apply Kd.R_drewN | apply Kd.R_drew)); exact HO_0.out)); (case aS => exact (below_size (by repeat (first | (with_reducible first | exact HB.out | apply below_alloc | apply pw_below_drewN | apply below_drew1) | exact HB.out)))); (case aL => have := LMc14.out; omega); intro v120 w22 ho hb hg hat; rw [← Ny119.out] at ho; have n0_ := Aside0.mk (hb); have n1_ := Aside0.mk (Kept.of_grown (S := (fun k_ => P0_ k_)) hg (by repeat (first | (with_reducible first | exact HK.out | apply Kept.alloc | apply Kept.drewN | apply Kept.drew) | exact HK.out)) (fun k_ e_ => (HO_0.out.1 k_ e_))); have n2_ := Aside0.mk (ho); clear HB; clear HK; clear HO_0; have HB := n0_; have HK := n1_; have HO121 := n2_; clear n0_ n1_ n2_; clear ho hb hg hat; obtain ⟨Ao24, co24, eo24⟩ := Kd.R_slice HO121.out; subst eo24; have q23 : ((ji15) : Int) ≤ ((y119.length : Int) : Int) := of_decide_eq_true (by first | (with_reducible assumption) | assumption); obtain ⟨i023, hi023, _, hsz23, _⟩ := info_parts info9; have hroom23 : y119.length ≤ co24 := (Kd.R_reads' HO121.out).2.1; have hC23 : Kd.C Kd.string _ Ao24 y119.length y119 := (Kd.R_reads' HO121.out).2.2; have q023 : (0 : Int) ≤ ((ji15) : Int) := of_decide_eq_true (by first | (with_reducible assumption) | assumption); have hcut23 := cut_from (P := Try.prog) 23 9 .i64 Try.underlying23 hi023 1 hsz23 Ao24 y119.length co24 (ji15) q023 q23; have hr23 := Kd.C_drop (m := ((ji15) : Int).toNat) (c := co24) hC23 (by omega) hroom23; obtain ⟨A23, hA23⟩ : ∃ A1, A1 = (if co24 = ((ji15) : Int).toNat then Ao24 else (Ao24 : Option Addr).map (·.add (((ji15) : Int).toNat * 1))) := ⟨_, rfl⟩; obtain ⟨c23, hc23⟩ : ∃ c1, c1 = co24 - ((ji15) : Int).toNat := ⟨_, rfl⟩; have hy23 : y122.length = y119.length - ((ji15) : Int).toNat := (by rw [Ny122.out, List.length_drop] <;> omega); rw [show (y119).drop ((ji15) : Int).toNat = y122 from Ny122.out.symm] at hr23; replace hr23 : Kd.C Kd.string _ A23 y122.length y122 := (by rw [hA23]; exact hr23); rw [← hy23, ← hA23, ← hc23] at hcut23; have HR125 := Aside0.mk hr23; have HC125 := Aside0.mk (show y122.length ≤ c23 from by rw [hy23, hc23]; exact Nat.sub_le_sub_right hroom23 _); clear hr23 hC23 hroom23 hi023 hsz23 hc23; have KY23 := Aside0.mk hy23; have KA23 := Aside0.mk hA23; clear hy23 hA23; have KL23 := Aside0.mk (show ((ji15) : Int).toNat ≤ y119.length from by omega); replace q23 := eq_true q23; have q25 : (x5_1 : Int) ≤ ((y119.length : Int) : Int) := of_decide_eq_true (by first | (with_reducible assumption) | assumption); obtain ⟨i025, hi025, _, hsz25, _⟩ := info_parts info9; have hroom25 : y119.length ≤ co24 := (Kd.R_reads' HO121.out).2.1; have hC25 : Kd.C Kd.string _ Ao24 y119.length y119 := (Kd.R_reads' HO121.out).2.2; have q025 : (0 : Int) ≤ (x5_1 : Int) := of_decide_eq_true (by first | (with_reducible assumption) | assumption); have hcut25 := cut_from (P := Try.prog) 23 9 .i64 Try.underlying23 hi025 1 hsz25 Ao24 y119.length co24 x5_1 q025 q25; have hr25 := Kd.C_drop (m := (x5_1 : Int).toNat) (c := co24) hC25 (by omega) hroom25; obtain ⟨A25, hA25⟩ : ∃ A1, A1 = (if co24 = (x5_1 : Int).toNat then Ao24 else (Ao24 : Option Addr).map (·.add ((x5_1 : Int).toNat * 1))) := ⟨_, rfl⟩; obtain ⟨c25, hc25⟩ : ∃ c1, c1 = co24 - (x5_1 : Int).toNat := ⟨_, rfl⟩; have hy25 : y126.length = y119.length - (x5_1 : Int).toNat := (by rw [Ny126.out, List.length_drop] <;> omega); rw [show (y119).drop (x5_1 : Int).toNat = y126 from Ny126.out.symm] at hr25; replace hr25 : Kd.C Kd.string _ A25 y126.length y126 := (by rw [hA25]; exact hr25); rw [← hy25, ← hA25, ← hc25] at hcut25; have HR129 := Aside0.mk hr25; have HC129 := Aside0.mk (show y126.length ≤ c25 from by rw [hy25, hc25]; exact Nat.sub_le_sub_right hroom25 _); clear hr25 hC25 hroom25 hi025 hsz25 hc25; have KY25 := Aside0.mk hy25; have KA25 := Aside0.mk hA25; clear hy25 hA25; have KL25 := Aside0.mk (show (x5_1 : Int).toNat ≤ y119.length from by omega); replace q25 := eq_true q25))
                              have gl_ := own_at HO121.out (by rw [Ny119.out, List.length_append]; simp)
                              obtain ⟨gg_, hgg_⟩ := gl_
                              subst hgg_
                              have n0_ := Aside0.mk (Kd.R_drew HO121.out)
                              have n1_ := Aside0.mk (below_drew1 HB.out)
                              have n2_ := Aside0.mk (show Kept w w22.drew (fun k_ => P0_ k_) from by repeat (first | (with_reducible first | exact HK.out | apply Kept.alloc | apply Kept.drewN | apply Kept.drew) | exact HK.out))
                              clear HO121 HB HK
                              have HO121 := n0_
                              have HB := n1_
                              have HK := n2_
                              clear n0_ n1_ n2_
                              refine start_ (n := 8) (S := fun w' => True) (ds := []) #[false, false, false, false, false, false, false, false] (by kernel_rfl) rfl rfl trivial (fun hHeld => ?_); refine with_tab (T := rtab .any (opsOf Try.f29 7)) rfl (fun HT_ => ?_)
                              generalize w22.drew = w41 at HO121 HB HK hHeld ⊢
                              refine pw_ 0 37 HT_.out (h := ?_)
                              refine pw_ 1 38 HT_.out (h := ?_)
                              refine pw_ 2 39 HT_.out (h := ?_)
                              refine pw_ 3 40 HT_.out (h := ?_)
                              refine pw_ 4 41 HT_.out (h := ?_)
                              refine pw_ 5 42 HT_.out (h := ?_)
                              refine pw_ 6 43 HT_.out (h := ?_)
                              refine one_ (i := 7) (N := some 44) #[true, true, true, true, true, true, true, true] rfl rfl (one_of HT_.out (by kernel_rfl)) (by decide) (fun K hK => ?_)
                              obtain ⟨d_, hd_⟩ : ∃ d_, d_ = x5_1.toNat := ⟨_, rfl⟩
                              have hx5_ : (x5_1 : Int) = (d_ : Int) := by have h_ : 0 ≤ x5_1 := of_decide_eq_true (by first | (with_reducible assumption) | assumption); omega
                              have hj_ : (ji15 : Int) = ((d_ + 1 : Nat) : Int) := (by have h3_ : x5_1 < (y119.length : Int) := of_decide_eq_true (by first | (with_reducible assumption) | assumption); have h4_ := LMc14.out; have h5_ : y119.length = l0.length + 1 := (by rw [Ny119.out, List.length_append]; rfl); rw [← hji15, hx5_]; unfold wrap64; omega)
                              have h3n_ : d_ < y119.length := (by have h3_ : x5_1 < (y119.length : Int) := of_decide_eq_true (by first | (with_reducible assumption) | assumption); omega)
                              have K1_ := KY23.out
                              have K2_ := KY25.out
                              have K3_ := KA23.out
                              have K4_ := KA25.out
                              have K5_ := (Kd.R_reads' HO121.out).2.1
                              rw [hj_] at K1_ K3_
                              rw [← hd_] at K2_ K4_
                              rw [Int.toNat_natCast] at K1_ K3_
                              refine copy_step rfl (.tmp 40) (.tmp 43) 23 rfl Try.underlying23 (by kernel_rfl) HO121.out d_ (d_ + 1) A23 A25 y122.length c23 y126.length c25 rfl rfl ((y119.drop d_).take y122.length) rfl ?hn ?hfit ?hpos ?_
                              case hn => rw [List.length_take, List.length_drop, K2_]; exact Nat.min_comm _ _
                              case hfit => rw [List.length_take, List.length_drop]; omega
                              case hpos => intro hp_; rw [List.length_take, List.length_drop] at hp_; rw [K3_, K4_, if_neg (by omega), if_neg (by omega)]; simp [Addr.add]; omega
                              intro w42 hR hg
                              have n0_ := Aside0.mk (HB.out.grown hg (below_size HB.out) (fun k_ e_ => by injection e_ with e_; subst e_; exact Kd.R_base hR gg_ (by simp [Value.ownBlock])))
                              have n1_ := Aside0.mk (Kept.of_grown (S := (fun k_ => P0_ k_)) hg HK.out (fun k_ e_ => (HO121.out.1 k_ e_)))
                              obtain ⟨y2_, hy2_⟩ : ∃ y_, y_ = insLay y119 x5_1 := ⟨_, rfl⟩
                              have hl2_ : y2_.length = y119.length := by rw [hy2_]; exact lay_length _ _ _
                              have hR2_ : Kd.R Kd.string 9 w42 w0.heap.size (fun k_ => (P0_ k_ ∨ w.heap.size ≤ k_)) (.slice (some ⟨gg_, 0, none⟩) y119.length co24) y2_ := by rw [hy2_]; unfold insLay; rw [← hd_, ← K1_]; exact hR
                              clear HO121 HB HK
                              rw [← hl2_] at hR2_
                              have HO121 := Aside0.mk hR2_
                              have HB := n0_
                              have HK := n1_
                              clear n0_ n1_ hR hg hR2_
                              have Ny130_ := Ny130.out
                              rw [← hy2_] at Ny130_
                              clear Ny130
                              have Ny130 := Aside0.mk Ny130_
                              refine hK.out _ _ trivial (fun hHeld => ?_)
                              clear hK K
                              refine norm_ (a' := ?_) ?_ ?_
                              rotate_left
                              · show Act.put _ (some 44) _ = _
                                simp only [Act.put, List.setIfInBounds_toArray, List.set_cons_zero, List.set_cons_succ, i64_w, i32_w]
                                rfl
                              refine done_ (done_of HT_.out (by kernel_rfl)) ?_
                              rw [← hl2_]
                              have c21x_ : decide (x5_1 < (y2_.length : Int)) = true := (by rw [hl2_]; first | (with_reducible assumption) | assumption)
                              (try clear hx5_)
                              (try clear hj_)
                              (try clear K1_)
                              (try clear K2_)
                              (try clear K3_)
                              (try clear K4_)
                              (try clear K5_)
                              (try clear h3n_)
                              (try clear hd_)
                              (try clear hl2_)
                              (try clear hy2_)
                              (try clear Ny130_)
                              have p21 : 0 ≤ (x5_1 : Int) := of_decide_eq_true (by first | (with_reducible assumption) | assumption); have q21 : (x5_1 : Int) < ((y2_.length : Int) : Int) := of_decide_eq_true (by first | (with_reducible assumption) | assumption); obtain ⟨go21, co21, eo21, gb21, gl21, cl21, HG21⟩ := Kd.R_form HO121.out (by omega); (first | cases eo21 | (injection eo21 with ea_ en_ ec_; (first | subst ea_ | (injection ea_ with ea_; subst ea_)); subst ec_; clear en_)); have GB21 := Aside0.mk gb21; have GG21 := Aside0.mk HG21; clear gb21 gl21 HG21; have HMgg_ := Aside0.mk (show (P0_ gg_ ∨ w.heap.size ≤ gg_) from (HO121.out.1 _ rfl)); obtain ⟨hx21_0, hf21_0⟩ := Kd.R_celln (⟨#[]⟩ : ByteArray) HO121.out (x5_1 : Int) p21 q21; replace p21 := eq_true p21; replace q21 := eq_true q21; obtain ⟨hy26_, hz26_⟩ := Kd.R_celln (⟨#[]⟩ : ByteArray) HO121.out (x5_1 : Int) (of_decide_eq_true (by first | (with_reducible assumption) | assumption)) (of_decide_eq_true (by first | (with_reducible assumption) | assumption)); have HP26 := Kd.R_putg HO121.out (x5_1 : Int) a1
                              go_wp2_with (first | ((with_reducible refine gate_store (t := 9) (p := 48) rfl ?_); (try (rw [drewN_self w22]; generalize hq_ : World.drewN w22 _ = w22; have n0_ := Aside0.mk (Kd.R_at hq_ HO121.out); have n1_ := Aside0.mk (kept_at hq_ HK.out); have n2_ := Aside0.mk (below_at hq_ HB.out); clear hq_ HO121 HK HB; have HO121 := n0_; have HK := n1_; have HB := n2_; clear n0_ n1_ n2_; (try (obtain ⟨hy26_, hz26_⟩ := Kd.R_celln (⟨#[]⟩ : ByteArray) HO121.out (x5_1 : Int) (of_decide_eq_true (by first | (with_reducible assumption) | assumption)) (of_decide_eq_true (by first | (with_reducible assumption) | assumption)))); (try (have HP26 := Kd.R_putg HO121.out (x5_1 : Int) a1)))); refine store_event (t := 9) (p := 48) (v := ?vo_w27) (w1 := (w22.setCell ⟨gg_, (x5_1 : Int).toNat, none⟩ (.string a1))) ?hg ?ho ?hn ?hr ?_; (case ho => rfl); (case hg => rfl); (case hn => rfl); (case hr => first | (go_simp; done) | (go_simp; rfl)); intro w27 hw; have hg : w22.grownBy w27 (some gg_) := (by rw [hw]; exact HP26.2); have hp_ : Kd.R Kd.string 9 w27 w0.heap.size (fun k_ => (P0_ k_ ∨ w.heap.size ≤ k_)) (.slice (some ⟨gg_, 0, none⟩) y2_.length co24) y130 := (by rw [hw, Ny130.out]; exact HP26.1); clear HP26; have n0_ := Aside0.mk (hp_); have n1_ := Aside0.mk ((by rw [hw]; exact below_set (HB.out) GB21.out : Below w0.heap.size w0 w27)); have n2_ := Aside0.mk (Kept.of_grown (S := (fun k_ => P0_ k_)) hg (by repeat (first | (with_reducible first | exact HK.out | apply Kept.alloc | apply Kept.drewN | apply Kept.drew) | exact HK.out)) (fun k_ e_ => (HO121.out.1 k_ e_))); clear HO121; clear HB; clear HK; have HO121 := n0_; have HB := n1_; have HK := n2_; clear n0_ n1_ n2_; clear hg hw hp_))
                              go_ret
                              exact ⟨_, rfl, (by rw [Ny130.out]; exact HP26.1), below_set HB.out GB21.out, Kept.of_grown (S := (fun k_ => P0_ k_)) HP26.2 HK.out (fun k_ e_ => HO121.out.1 k_ e_)⟩
                            · rw [if_neg c20] at H
                              exact absurd H (by simp)
                          · rw [if_neg c19] at H
                            exact absurd H (by simp)
                        · rw [if_neg c18] at H
                          exact absurd H (by simp)
                      · rw [if_neg c17] at H
                        exact absurd H (by simp)
                    · rw [if_neg c16] at H
                      exact absurd H (by simp)
                  · rw [if_neg c14] at H
                    exact absurd H (by simp)

end Go.Proofs.Ytcgglamgemgeiaa.Q
/- FFeatureFormat -/
namespace Go.Proofs.Ytcgglamgemgeiaa.Q
open Go.RowKit Go.Proofs.YtcgglamgemgeiaaW.PrintWords Go.Proofs.YtcgglamgemgeiaaW.PrintLast Go.Proofs.YtcgglamgemgeiaaW.PrintMore
attribute [local go_sem] max2_int min2_int max_two min_two max_three min_three max_four min_four   -- for this text's walks alone
set_option linter.unusedVariables false
set_option linter.unusedSimpArgs false

/-! ### feature_Format: function 16 -/
mutual
def feature_Format.l0 : Nat → List ByteArray → List ByteArray → Int → Int → Option (ByteArray × Int)
  | 0, _, _, _, _ => none
  | k + 1, x4, x11, x12, x13 => if x13 < x12 then (if 0 ≤ x13 then (if x13 < (x11.length : Int) then ((markup_ValidValue.f (rdOf ByteArray.empty x11 x13)).bind fun t183 => (if t183 = 0 then (if (rdOf ByteArray.empty x11 x13).toList = ([] : List UInt8) then (some ((⟨#[]⟩ : ByteArray), 3)) else ((strings_Contains.f (rdOf ByteArray.empty x11 x13) (⟨#[124]⟩ : ByteArray)).bind fun t184 => (if t184 = true then (some ((⟨#[]⟩ : ByteArray), 3)) else ((feature_insert.f k x4 (rdOf ByteArray.empty x11 x13)).bind fun t185 => (feature_Format.l0 k t185 x11 x12 (wrap64 (x13 + 1))))))) else (some ((⟨#[]⟩ : ByteArray), t183)))) else (none)) else (none)) else (feature_Format.l1 k (⟨#[124]⟩ : ByteArray) x4 (x4.length : Int) 0)
def feature_Format.l1 : Nat → ByteArray → List ByteArray → Int → Int → Option (ByteArray × Int)
  | 0, _, _, _, _ => none
  | k + 1, x8, x32, x33, x34 => if x34 < x33 then (if 0 ≤ x34 then (if x34 < (x32.length : Int) then (if (rdOf ByteArray.empty x32 x34).size + 1 ≤ 9223372036854775807 then (if x8.size + ((rdOf ByteArray.empty x32 x34) ++ (⟨#[124]⟩ : ByteArray)).size ≤ 9223372036854775807 then (if ((x8 ++ ((rdOf ByteArray.empty x32 x34) ++ (⟨#[124]⟩ : ByteArray))).size : Int) > 120 then (some ((⟨#[]⟩ : ByteArray), 2)) else (feature_Format.l1 k (x8 ++ ((rdOf ByteArray.empty x32 x34) ++ (⟨#[124]⟩ : ByteArray))) x32 x33 (wrap64 (x34 + 1)))) else (none)) else (none)) else (none)) else (none)) else (some (x8, 0))
end
def feature_Format.f (k : Nat) (l0 : List ByteArray) : Option (ByteArray × Int) := feature_Format.l0 k ([] : List ByteArray) l0 (l0.length : Int) 0
theorem feature_Format.mono_l : ∀ k, (∀ y0 y1 y2 y3, LeO (feature_Format.l0 k y0 y1 y2 y3) (feature_Format.l0 (k + 1) y0 y1 y2 y3)) ∧ (∀ y0 y1 y2 y3, LeO (feature_Format.l1 k y0 y1 y2 y3) (feature_Format.l1 (k + 1) y0 y1 y2 y3))
  | 0 => ⟨fun _ _ _ _ r h => by simp [feature_Format.l0] at h, fun _ _ _ _ r h => by simp [feature_Format.l1] at h⟩
  | k + 1 => by
    obtain ⟨ih0, ih1⟩ := feature_Format.mono_l k
    refine ⟨?_, ?_⟩
    · intro y0 y1 y2 y3
      unfold feature_Format.l0
      repeat' first
      | (with_reducible exact ih0 _ _ _ _)
      | (with_reducible exact ih1 _ _ _ _)
      | (with_reducible exact feature_insert.mono _ _ _)
      | (with_reducible exact LeO.refl _)
      | (with_reducible exact LeO.none _)
      | (with_reducible refine LeO.ite ?_ ?_)
      | (with_reducible refine LeO.bind ?_ (fun _ => ?_))
      | exact ih0 _ _ _ _
      | exact ih1 _ _ _ _
      | exact feature_insert.mono _ _ _
      | exact LeO.none _
      | refine LeO.ite ?_ ?_
      | refine LeO.bind ?_ (fun _ => ?_)
    · intro y0 y1 y2 y3
      unfold feature_Format.l1
      repeat' first
      | (with_reducible exact ih0 _ _ _ _)
      | (with_reducible exact ih1 _ _ _ _)
      | (with_reducible exact feature_insert.mono _ _ _)
      | (with_reducible exact LeO.refl _)
      | (with_reducible exact LeO.none _)
      | (with_reducible refine LeO.ite ?_ ?_)
      | (with_reducible refine LeO.bind ?_ (fun _ => ?_))
      | exact ih0 _ _ _ _
      | exact ih1 _ _ _ _
      | exact feature_insert.mono _ _ _
      | exact LeO.none _
      | refine LeO.ite ?_ ?_
      | refine LeO.bind ?_ (fun _ => ?_)
theorem feature_Format.mono : ∀ a0 k, LeO (feature_Format.f k a0) (feature_Format.f (k + 1) a0) := by
  intro a0 k
  obtain ⟨ih0, ih1⟩ := feature_Format.mono_l k
  unfold feature_Format.f
  repeat' first
      | (with_reducible exact ih0 _ _ _ _)
      | (with_reducible exact ih1 _ _ _ _)
      | (with_reducible exact feature_insert.mono _ _ _)
      | (with_reducible exact LeO.refl _)
      | (with_reducible exact LeO.none _)
      | (with_reducible refine LeO.ite ?_ ?_)
      | (with_reducible refine LeO.bind ?_ (fun _ => ?_))
      | exact ih0 _ _ _ _
      | exact ih1 _ _ _ _
      | exact feature_insert.mono _ _ _
      | exact LeO.none _
      | refine LeO.ite ?_ ?_
      | refine LeO.bind ?_ (fun _ => ?_)
set_option maxHeartbeats 8000000 in
set_option maxRecDepth 100000 in
theorem feature_Format.calls (k : Nat) (A0 : Option Addr) (c0 : Nat) (l0 : List ByteArray) (r1 : ByteArray) (r2 : Int) (w : World) (hr0 : Kd.C Kd.string w A0 l0.length l0) (hc0 : l0.length ≤ c0) (h : feature_Format.f k l0 = some (r1, r2)) :
    Calls Try.prog 16 #[.slice A0 l0.length c0] w fun e w' => e = .returned (.tuple #[.string r1, .int .i64 r2]) ∧ Below w.heap.size w w' := by
  have HR0 := Aside0.mk hr0
  have HC0 := Aside0.mk hc0
  clear hr0 hc0
  have HB := Aside0.mk (Below.refl w.heap.size w)
  have H : (feature_Format.l0 k ([] : List ByteArray) l0 (l0.length : Int) 0) = some (r1, r2) := h
  clear h
  have H' := Aside0.mk H
  clear H
  go_enter Try.func16, Try.ntmps16
  go_wp2
  go_loopg [4, 13] k (fun kq v4 v13 w' => ∃ (x4_1 : List ByteArray) (x13_1 : Int), v13 = .int .i64 x13_1 ∧ Aside0 (feature_Format.l0 kq x4_1 l0 (l0.length : Int) x13_1 = some (r1, r2)) ∧ Aside0 (kq ≤ k) ∧ Aside0 (Kd.R Kd.string 9 w' w.heap.size (fun _ => True) v4 x4_1) ∧ Aside0 (Below w.heap.size w w'))
  case atStart => exact ⟨(([] : List ByteArray)), (0), (by first | rfl | (simp; done) | (simp [*]; done)), H', ⟨Nat.le_refl _⟩, ⟨by first | exact Kd.R_nil _ _ _ _ _ | exact Kd.N_nil _ _ _ _ _ | exact Kd.V_nil _ _ _ _ _ | exact Kd.Q_nil _ _ _ _ _ | exact Kd.S_nil _ _ _ _ _⟩, ⟨by repeat (first | (with_reducible first | exact HB.out | apply below_alloc | apply pw_below_drewN | apply below_drew1) | exact HB.out)⟩⟩
  case round =>
    clear H'
    try clear c1
    obtain ⟨x4_1, x13_1, rfl, HA, HK1, HO_4, HB⟩ := hrel
    cases gk with
    | zero => exact absurd HA.out (by simp [feature_Format.l0])
    | succ k1 =>
      have H := HA.out
      clear HA
      simp only [feature_Format.l0] at H
      by_cases c2 : x13_1 < (l0.length : Int)
      · rw [if_pos c2] at H
        have c2b0 : decide (x13_1 < (l0.length : Int)) = true := decide_eq_true c2
        clear c2
        by_cases c3 : 0 ≤ x13_1
        · rw [if_pos c3] at H
          have c3b0 : decide (0 ≤ x13_1) = true := decide_eq_true c3
          clear c3
          by_cases c4 : x13_1 < (l0.length : Int)
          · rw [if_pos c4] at H
            have c4b0 : decide (x13_1 < (l0.length : Int)) = true := decide_eq_true c4
            clear c4
            replace H := Option.bind_eq_some_iff.mp H
            obtain ⟨t183, A50, H⟩ := H
            replace H : (if t183 = 0 then (if (rdOf ByteArray.empty l0 x13_1).toList = ([] : List UInt8) then (some ((⟨#[]⟩ : ByteArray), 3)) else ((strings_Contains.f (rdOf ByteArray.empty l0 x13_1) (⟨#[124]⟩ : ByteArray)).bind fun t184 => (if t184 = true then (some ((⟨#[]⟩ : ByteArray), 3)) else ((feature_insert.f k1 x4_1 (rdOf ByteArray.empty l0 x13_1)).bind fun t185 => (feature_Format.l0 k1 t185 l0 (l0.length : Int) (wrap64 (x13_1 + 1))))))) else (some ((⟨#[]⟩ : ByteArray), t183))) = some (r1, r2) := H
            have A5 := Aside0.mk A50
            clear A50
            by_cases c6 : t183 = 0
            · rw [if_pos c6] at H
              have c6b0 : (t183 == 0) = true := beq_iff_eq.mpr c6
              have c6b1 : (t183 != 0) = false := bne_eq_false_iff_eq.mpr c6
              clear c6
              by_cases c7 : (rdOf ByteArray.empty l0 x13_1).toList = ([] : List UInt8)
              · rw [if_pos c7] at H
                have c7b0 : ((rdOf ByteArray.empty l0 x13_1).toList == ([] : List UInt8)) = true := beq_iff_eq.mpr c7
                have c7b1 : ((rdOf ByteArray.empty l0 x13_1).toList != ([] : List UInt8)) = false := bne_eq_false_iff_eq.mpr c7
                clear c7
                simp only [Option.some.injEq, Prod.mk.injEq] at H
                obtain ⟨rfl, rfl⟩ := H
                have p182 : 0 ≤ (x13_1 : Int) := of_decide_eq_true (by first | (with_reducible assumption) | assumption)
                have q182 : x13_1 < (l0.length : Int) := of_decide_eq_true (by first | (with_reducible assumption) | assumption)
                obtain ⟨ad182, e182, hx182_0⟩ := Kd.at_string HR0.out x13_1 p182 q182
                cases e182
                replace hx182_0 := (HB.out.cell (World.block_lt_of_cell? w _ hx182_0)).trans hx182_0
                replace p182 := eq_true p182
                replace q182 := eq_true q182
                go_wp2_with (first | ((with_reducible refine gate_callee (f := 26) rfl ?_); refine goesL_ (some 18) rfl rfl Try.func26 (by kernel_rfl) rfl #[.string (rdOf ByteArray.empty l0 x13_1)] rfl (by (try simp only [List.map_toArray, List.map_cons, List.map_nil]); first | done | rfl | (simp only [List.length_drop, List.length_take]; rfl)) ?_; (with_reducible refine (markup_ValidValue.calls (rdOf ByteArray.empty l0 x13_1) t183 _ A5.out).mono ?_); rintro e w8 ⟨rfl, hb⟩; refine ⟨_, rfl, ?_⟩; have n0_ := Aside0.mk (Kd.R_below (by (with_reducible repeat (first | apply Kd.R_alloc | apply Kd.R_drewN | apply Kd.R_drew)); exact HO_4.out) hb); have n1_ := Aside0.mk (below_step (by repeat (first | (with_reducible first | exact HB.out | apply below_alloc | apply pw_below_drewN | apply below_drew1) | exact HB.out)) hb); clear HO_4; clear HB; have HO_4 := n0_; have HB := n1_; clear n0_ n1_; (try clear hb); (try clear hb2); (try clear hk); (try clear hi)))
                go_ret2
                exact ⟨by first | rfl | (simp [errW_none, errW_some] <;> rfl) | (simp [*, errW_none, errW_some] <;> rfl), by repeat (first | (with_reducible first | exact HB.out | apply below_alloc | apply pw_below_drewN | apply below_drew1) | exact HB.out)⟩
              · rw [if_neg c7] at H
                have c7b0 : ((rdOf ByteArray.empty l0 x13_1).toList == ([] : List UInt8)) = false := beq_eq_false_iff_ne.mpr c7
                have c7b1 : ((rdOf ByteArray.empty l0 x13_1).toList != ([] : List UInt8)) = true := bne_iff_ne.mpr c7
                replace H := Option.bind_eq_some_iff.mp H
                obtain ⟨t184, A90, H⟩ := H
                replace H : (if t184 = true then (some ((⟨#[]⟩ : ByteArray), 3)) else ((feature_insert.f k1 x4_1 (rdOf ByteArray.empty l0 x13_1)).bind fun t185 => (feature_Format.l0 k1 t185 l0 (l0.length : Int) (wrap64 (x13_1 + 1))))) = some (r1, r2) := H
                have A9 := Aside0.mk A90
                clear A90
                by_cases c10 : t184 = true
                · subst c10
                  have H1 : (some ((⟨#[]⟩ : ByteArray), 3)) = some (r1, r2) := by rw [if_pos rfl] at H; exact H
                  clear H
                  have H := H1
                  clear H1
                  simp only [Option.some.injEq, Prod.mk.injEq] at H
                  obtain ⟨rfl, rfl⟩ := H
                  have p182 : 0 ≤ (x13_1 : Int) := of_decide_eq_true (by first | (with_reducible assumption) | assumption)
                  have q182 : x13_1 < (l0.length : Int) := of_decide_eq_true (by first | (with_reducible assumption) | assumption)
                  obtain ⟨ad182, e182, hx182_0⟩ := Kd.at_string HR0.out x13_1 p182 q182
                  cases e182
                  replace hx182_0 := (HB.out.cell (World.block_lt_of_cell? w _ hx182_0)).trans hx182_0
                  replace p182 := eq_true p182
                  replace q182 := eq_true q182
                  go_wp2_with (first | ((with_reducible refine gate_callee (f := 26) rfl ?_); refine goesL_ (some 18) rfl rfl Try.func26 (by kernel_rfl) rfl #[.string (rdOf ByteArray.empty l0 x13_1)] rfl (by (try simp only [List.map_toArray, List.map_cons, List.map_nil]); first | done | rfl | (simp only [List.length_drop, List.length_take]; rfl)) ?_; (with_reducible refine (markup_ValidValue.calls (rdOf ByteArray.empty l0 x13_1) t183 _ A5.out).mono ?_); rintro e w11 ⟨rfl, hb⟩; refine ⟨_, rfl, ?_⟩; have n0_ := Aside0.mk (Kd.R_below (by (with_reducible repeat (first | apply Kd.R_alloc | apply Kd.R_drewN | apply Kd.R_drew)); exact HO_4.out) hb); have n1_ := Aside0.mk (below_step (by repeat (first | (with_reducible first | exact HB.out | apply below_alloc | apply pw_below_drewN | apply below_drew1) | exact HB.out)) hb); clear HO_4; clear HB; have HO_4 := n0_; have HB := n1_; clear n0_ n1_; (try clear hb); (try clear hb2); (try clear hk); (try clear hi)) | (go_at_call 28; (with_reducible refine (strings_Contains.calls (rdOf ByteArray.empty l0 x13_1) (⟨#[124]⟩ : ByteArray) true _ A9.out).mono ?_); rintro e w' ⟨rfl, ⟨nd, rfl⟩⟩))
                  go_ret2
                  exact ⟨by first | rfl | (simp [errW_none, errW_some] <;> rfl) | (simp [*, errW_none, errW_some] <;> rfl), by repeat (first | (with_reducible first | exact HB.out | apply below_alloc | apply pw_below_drewN | apply below_drew1) | exact HB.out)⟩
                · replace c10 := Bool.eq_false_iff.mpr c10
                  subst c10
                  have H1 : ((feature_insert.f k1 x4_1 (rdOf ByteArray.empty l0 x13_1)).bind fun t185 => (feature_Format.l0 k1 t185 l0 (l0.length : Int) (wrap64 (x13_1 + 1)))) = some (r1, r2) := by rw [if_neg (show ¬ (false = true) by decide)] at H; exact H
                  clear H
                  have H := H1
                  clear H1
                  replace H := Option.bind_eq_some_iff.mp H
                  obtain ⟨t185, A120, H⟩ := H
                  replace H : (feature_Format.l0 k1 t185 l0 (l0.length : Int) (wrap64 (x13_1 + 1))) = some (r1, r2) := H
                  have A12 := Aside0.mk A120
                  clear A120
                  have H' := Aside0.mk H
                  clear H
                  have p182 : 0 ≤ (x13_1 : Int) := of_decide_eq_true (by first | (with_reducible assumption) | assumption)
                  have q182 : x13_1 < (l0.length : Int) := of_decide_eq_true (by first | (with_reducible assumption) | assumption)
                  obtain ⟨ad182, e182, hx182_0⟩ := Kd.at_string HR0.out x13_1 p182 q182
                  cases e182
                  replace hx182_0 := (HB.out.cell (World.block_lt_of_cell? w _ hx182_0)).trans hx182_0
                  replace p182 := eq_true p182
                  replace q182 := eq_true q182
                  go_wp2_with (first | ((with_reducible refine gate_callee (f := 26) rfl ?_); refine goesL_ (some 18) rfl rfl Try.func26 (by kernel_rfl) rfl #[.string (rdOf ByteArray.empty l0 x13_1)] rfl (by (try simp only [List.map_toArray, List.map_cons, List.map_nil]); first | done | rfl | (simp only [List.length_drop, List.length_take]; rfl)) ?_; (with_reducible refine (markup_ValidValue.calls (rdOf ByteArray.empty l0 x13_1) t183 _ A5.out).mono ?_); rintro e w13 ⟨rfl, hb⟩; refine ⟨_, rfl, ?_⟩; have n0_ := Aside0.mk (Kd.R_below (by (with_reducible repeat (first | apply Kd.R_alloc | apply Kd.R_drewN | apply Kd.R_drew)); exact HO_4.out) hb); have n1_ := Aside0.mk (below_step (by repeat (first | (with_reducible first | exact HB.out | apply below_alloc | apply pw_below_drewN | apply below_drew1) | exact HB.out)) hb); clear HO_4; clear HB; have HO_4 := n0_; have HB := n1_; clear n0_ n1_; (try clear hb); (try clear hb2); (try clear hk); (try clear hi)) | (go_at_call 28; (with_reducible refine (strings_Contains.calls (rdOf ByteArray.empty l0 x13_1) (⟨#[124]⟩ : ByteArray) false _ A9.out).mono ?_); rintro e w' ⟨rfl, ⟨nd, rfl⟩⟩; obtain ⟨Ao14, co14, eo14⟩ := Kd.R_slice HO_4.out; subst eo14) | ((with_reducible refine gate_callee (f := 29) rfl ?_); refine goesL_ (some 30) rfl rfl Try.func29 (by kernel_rfl) rfl #[.slice Ao14 x4_1.length co14, .string (rdOf ByteArray.empty l0 x13_1)] rfl (by (try simp only [List.map_toArray, List.map_cons, List.map_nil]); first | done | rfl | (simp only [List.length_drop, List.length_take]; rfl)) ?_; (with_reducible refine (feature_insert.calls k1 (fun k_ => some k_ = (.slice Ao14 x4_1.length co14 : Value).ownBlock) (.slice Ao14 x4_1.length co14) x4_1 (rdOf ByteArray.empty l0 x13_1) t185 w _ ?side1 ?side2 A12.out).mono ?_); (case side1 => repeat (first | (with_reducible first | exact HB.out | apply below_alloc | apply pw_below_drewN | apply below_drew1) | exact HB.out)); (case side2 => exact Kd.R_tight rfl HO_4.out); rintro e w15 ⟨v186, rfl, ho0, hb, hkp⟩; refine ⟨_, rfl, ?_⟩; have n0_ := Aside0.mk (Kd.R_mono (ok' := fun k_ => True) ho0 (fun k_ hk_ => trivial)); have n1_ := Aside0.mk (hb); clear HB; clear HO_4; have HO187 := n0_; have HB := n1_; clear n0_ n1_; (try clear hb); (try clear hkp); (try clear ho0)))
                  go_roundg k1
                  case measure => have := HK1.out; omega
                  case rel => exact ⟨(t185), (wrap64 (x13_1 + 1)), (by first | rfl | (simp; done) | (simp [*]; done)), H', ⟨by have := HK1.out; omega⟩, ⟨by (with_reducible repeat (first | apply Kd.R_alloc | apply Kd.R_drewN | apply Kd.R_drew)); exact HO187.out⟩, ⟨by repeat (first | (with_reducible first | exact HB.out | apply below_alloc | apply pw_below_drewN | apply below_drew1) | exact HB.out)⟩⟩
            · rw [if_neg c6] at H
              have c6b0 : (t183 == 0) = false := beq_eq_false_iff_ne.mpr c6
              have c6b1 : (t183 != 0) = true := bne_iff_ne.mpr c6
              simp only [Option.some.injEq, Prod.mk.injEq] at H
              obtain ⟨rfl, rfl⟩ := H
              have p182 : 0 ≤ (x13_1 : Int) := of_decide_eq_true (by first | (with_reducible assumption) | assumption)
              have q182 : x13_1 < (l0.length : Int) := of_decide_eq_true (by first | (with_reducible assumption) | assumption)
              obtain ⟨ad182, e182, hx182_0⟩ := Kd.at_string HR0.out x13_1 p182 q182
              cases e182
              replace hx182_0 := (HB.out.cell (World.block_lt_of_cell? w _ hx182_0)).trans hx182_0
              replace p182 := eq_true p182
              replace q182 := eq_true q182
              go_wp2_with (first | ((with_reducible refine gate_callee (f := 26) rfl ?_); refine goesL_ (some 18) rfl rfl Try.func26 (by kernel_rfl) rfl #[.string (rdOf ByteArray.empty l0 x13_1)] rfl (by (try simp only [List.map_toArray, List.map_cons, List.map_nil]); first | done | rfl | (simp only [List.length_drop, List.length_take]; rfl)) ?_; (with_reducible refine (markup_ValidValue.calls (rdOf ByteArray.empty l0 x13_1) t183 _ A5.out).mono ?_); rintro e w16 ⟨rfl, hb⟩; refine ⟨_, rfl, ?_⟩; have n0_ := Aside0.mk (Kd.R_below (by (with_reducible repeat (first | apply Kd.R_alloc | apply Kd.R_drewN | apply Kd.R_drew)); exact HO_4.out) hb); have n1_ := Aside0.mk (below_step (by repeat (first | (with_reducible first | exact HB.out | apply below_alloc | apply pw_below_drewN | apply below_drew1) | exact HB.out)) hb); clear HO_4; clear HB; have HO_4 := n0_; have HB := n1_; clear n0_ n1_; (try clear hb); (try clear hb2); (try clear hk); (try clear hi)))
              go_ret2
              exact ⟨by first | rfl | (simp [errW_none, errW_some] <;> rfl) | (simp [*, errW_none, errW_some] <;> rfl), by repeat (first | (with_reducible first | exact HB.out | apply below_alloc | apply pw_below_drewN | apply below_drew1) | exact HB.out)⟩
          · rw [if_neg c4] at H
            exact absurd H (by simp)
        · rw [if_neg c3] at H
          exact absurd H (by simp)
      · rw [if_neg c2] at H
        have c2b0 : decide (x13_1 < (l0.length : Int)) = false := decide_eq_false c2
        clear c2
        have H' := Aside0.mk H
        clear H
        obtain ⟨Ao17, co17, eo17⟩ := Kd.R_slice HO_4.out
        subst eo17
        go_wp2
        go_loopg [8, 34] k1 (fun kq v8 v34 w' => ∃ (x8_2 : ByteArray) (x34_2 : Int), v8 = .string x8_2 ∧ v34 = .int .i64 x34_2 ∧ Aside0 (feature_Format.l1 kq x8_2 x4_1 (x4_1.length : Int) x34_2 = some (r1, r2)) ∧ Aside0 (kq ≤ k1) ∧ Aside0 (Kd.R Kd.string 9 w' w.heap.size (fun _ => True) (.slice Ao17 x4_1.length co17) x4_1) ∧ Aside0 (Below w.heap.size w w'))
        case atStart => exact ⟨((⟨#[124]⟩ : ByteArray)), (0), (by first | rfl | (simp; done) | (simp [*]; done)), (by first | rfl | (simp; done) | (simp [*]; done)), H', ⟨Nat.le_refl _⟩, ⟨by (with_reducible repeat (first | apply Kd.R_alloc | apply Kd.R_drewN | apply Kd.R_drew)); exact HO_4.out⟩, ⟨by repeat (first | (with_reducible first | exact HB.out | apply below_alloc | apply pw_below_drewN | apply below_drew1) | exact HB.out)⟩⟩
        case round =>
          clear H'
          try clear c1
          try clear p1
          try clear q1
          try clear hx1
          try clear c2
          try clear c2b0
          try clear p2
          try clear c3
          try clear c3b0
          try clear c4
          try clear c4b0
          try clear c6
          try clear c6b0
          try clear c6b1
          try clear p6
          try clear c7
          try clear c7b0
          try clear c7b1
          try clear c10
          try clear c16
          try clear hx182_0
          try clear p182
          try clear q182
          obtain ⟨x8_2, x34_2, rfl, rfl, HA, HK2, HO_32, HB⟩ := hrel
          cases gk with
          | zero => exact absurd HA.out (by simp [feature_Format.l1])
          | succ k2 =>
            have H := HA.out
            clear HA
            simp only [feature_Format.l1] at H
            by_cases c18 : x34_2 < (x4_1.length : Int)
            · rw [if_pos c18] at H
              have c18b0 : decide (x34_2 < (x4_1.length : Int)) = true := decide_eq_true c18
              clear c18
              by_cases c19 : 0 ≤ x34_2
              · rw [if_pos c19] at H
                have c19b0 : decide (0 ≤ x34_2) = true := decide_eq_true c19
                clear c19
                by_cases c20 : x34_2 < (x4_1.length : Int)
                · rw [if_pos c20] at H
                  have c20b0 : decide (x34_2 < (x4_1.length : Int)) = true := decide_eq_true c20
                  clear c20
                  by_cases c21 : (rdOf ByteArray.empty x4_1 x34_2).size + 1 ≤ 9223372036854775807
                  · rw [if_pos c21] at H
                    have c21b0 := eq_true c21
                    have c21b1 : decide ((rdOf ByteArray.empty x4_1 x34_2).size + 1 ≤ 9223372036854775807) = true := decide_eq_true c21
                    try have c21b2 : (9223372036854775807 < (rdOf ByteArray.empty x4_1 x34_2).size + 1) = False := eq_false (Nat.not_lt.2 c21)
                    by_cases c22 : x8_2.size + ((rdOf ByteArray.empty x4_1 x34_2) ++ (⟨#[124]⟩ : ByteArray)).size ≤ 9223372036854775807
                    · rw [if_pos c22] at H
                      have c22b0 := eq_true c22
                      have c22b1 : decide (x8_2.size + ((rdOf ByteArray.empty x4_1 x34_2) ++ (⟨#[124]⟩ : ByteArray)).size ≤ 9223372036854775807) = true := decide_eq_true c22
                      try have c22b2 : (9223372036854775807 < x8_2.size + ((rdOf ByteArray.empty x4_1 x34_2) ++ (⟨#[124]⟩ : ByteArray)).size) = False := eq_false (Nat.not_lt.2 c22)
                      by_cases c23 : ((x8_2 ++ ((rdOf ByteArray.empty x4_1 x34_2) ++ (⟨#[124]⟩ : ByteArray))).size : Int) > 120
                      · rw [if_pos c23] at H
                        have c23b0 : decide (120 < ((x8_2 ++ ((rdOf ByteArray.empty x4_1 x34_2) ++ (⟨#[124]⟩ : ByteArray))).size : Int)) = true := decide_eq_true c23
                        have c23b1 : decide (120 < (x8_2 ++ ((rdOf ByteArray.empty x4_1 x34_2) ++ (⟨#[124]⟩ : ByteArray))).size) = true := decide_eq_true (by omega)
                        have c23b2 : decide (120 < (x8_2.size : Int) + (((rdOf ByteArray.empty x4_1 x34_2).size : Int) + 1)) = true := decide_eq_true (by have h_ := c23; rw [ByteArray.size_append, ByteArray.size_append] at h_; have h2_ : ((⟨#[124]⟩ : ByteArray)).size = 1 := rfl; omega)
                        clear c23
                        simp only [Option.some.injEq, Prod.mk.injEq] at H
                        obtain ⟨rfl, rfl⟩ := H
                        have p188 : 0 ≤ (x34_2 : Int) := of_decide_eq_true (by first | (with_reducible assumption) | assumption)
                        have q188 : x34_2 < (x4_1.length : Int) := of_decide_eq_true (by first | (with_reducible assumption) | assumption)
                        obtain ⟨ad188, e188, hx188_0⟩ := Kd.at_string (Kd.R_reads' HO_32.out).2.2 x34_2 p188 q188
                        cases e188
                        replace p188 := eq_true p188
                        replace q188 := eq_true q188
                        go_wp2
                        go_ret2
                        exact ⟨by first | rfl | (simp [errW_none, errW_some] <;> rfl) | (simp [*, errW_none, errW_some] <;> rfl), by repeat (first | (with_reducible first | exact HB.out | apply below_alloc | apply pw_below_drewN | apply below_drew1) | exact HB.out)⟩
                      · rw [if_neg c23] at H
                        have c23b0 : decide (120 < ((x8_2 ++ ((rdOf ByteArray.empty x4_1 x34_2) ++ (⟨#[124]⟩ : ByteArray))).size : Int)) = false := decide_eq_false c23
                        have c23b1 : decide (120 < (x8_2 ++ ((rdOf ByteArray.empty x4_1 x34_2) ++ (⟨#[124]⟩ : ByteArray))).size) = false := decide_eq_false (by omega)
                        have c23b2 : decide (120 < (x8_2.size : Int) + (((rdOf ByteArray.empty x4_1 x34_2).size : Int) + 1)) = false := decide_eq_false (by have h_ := c23; rw [ByteArray.size_append, ByteArray.size_append] at h_; have h2_ : ((⟨#[124]⟩ : ByteArray)).size = 1 := rfl; omega)
                        clear c23
                        have H' := Aside0.mk H
                        clear H
                        have p188 : 0 ≤ (x34_2 : Int) := of_decide_eq_true (by first | (with_reducible assumption) | assumption)
                        have q188 : x34_2 < (x4_1.length : Int) := of_decide_eq_true (by first | (with_reducible assumption) | assumption)
                        obtain ⟨ad188, e188, hx188_0⟩ := Kd.at_string (Kd.R_reads' HO_32.out).2.2 x34_2 p188 q188
                        cases e188
                        replace p188 := eq_true p188
                        replace q188 := eq_true q188
                        go_wp2
                        go_roundg k2
                        case measure => have := HK1.out; have := HK2.out; omega
                        case rel => exact ⟨(x8_2 ++ ((rdOf ByteArray.empty x4_1 x34_2) ++ (⟨#[124]⟩ : ByteArray))), (wrap64 (x34_2 + 1)), (by first | rfl | (simp; done) | (simp [*]; done)), (by first | rfl | (simp; done) | (simp [*]; done)), H', ⟨by have := HK1.out; have := HK2.out; omega⟩, ⟨by (with_reducible repeat (first | apply Kd.R_alloc | apply Kd.R_drewN | apply Kd.R_drew)); exact HO_32.out⟩, ⟨by repeat (first | (with_reducible first | exact HB.out | apply below_alloc | apply pw_below_drewN | apply below_drew1) | exact HB.out)⟩⟩
                    · rw [if_neg c22] at H
                      exact absurd H (by simp)
                  · rw [if_neg c21] at H
                    exact absurd H (by simp)
                · rw [if_neg c20] at H
                  exact absurd H (by simp)
              · rw [if_neg c19] at H
                exact absurd H (by simp)
            · rw [if_neg c18] at H
              have c18b0 : decide (x34_2 < (x4_1.length : Int)) = false := decide_eq_false c18
              clear c18
              simp only [Option.some.injEq, Prod.mk.injEq] at H
              obtain ⟨rfl, rfl⟩ := H
              go_wp2
              go_ret2
              exact ⟨by first | rfl | (simp [errW_none, errW_some] <;> rfl) | (simp [*, errW_none, errW_some] <;> rfl), by repeat (first | (with_reducible first | exact HB.out | apply below_alloc | apply pw_below_drewN | apply below_drew1) | exact HB.out)⟩

end Go.Proofs.Ytcgglamgemgeiaa.Q
/- FFeatureParse -/
namespace Go.Proofs.Ytcgglamgemgeiaa.Q
open Go.RowKit Go.Proofs.YtcgglamgemgeiaaW.PrintWords Go.Proofs.YtcgglamgemgeiaaW.PrintLast Go.Proofs.YtcgglamgemgeiaaW.PrintMore
attribute [local go_sem] max2_int min2_int max_two min_two max_three min_three max_four min_four   -- for this text's walks alone
set_option linter.unusedVariables false
set_option linter.unusedSimpArgs false

/-! ### feature_Parse: function 12 -/
mutual
def feature_Parse.j0 : Nat → ByteArray → Bool → Option (List ByteArray × Int)
  | 0, _, _ => none
  | k + 1, x0, x31 => if x31 = true then (some (([] : List ByteArray), 3)) else (feature_Parse.l0 k x0 ([] : List ByteArray) 1 1)
def feature_Parse.l0 : Nat → ByteArray → List ByteArray → Int → Int → Option (List ByteArray × Int)
  | 0, _, _, _, _ => none
  | k + 1, x0, x5, x6, x7 => if x7 < (x0.size : Int) then (if 0 ≤ x7 then (if (bt x0 x7) = 124 then (if x7 = x6 then (some (([] : List ByteArray), 3)) else (if 0 ≤ x6 then (if x6 ≤ x7 then (if x7 ≤ (x0.size : Int) then (if x5.length < 8796093022208 then (feature_Parse.l0 k x0 (x5 ++ [x0.extract (x6 : Int).toNat (x7 : Int).toNat]) (wrap64 (x7 + 1)) (wrap64 (x7 + 1))) else (none)) else (none)) else (none)) else (none))) else (feature_Parse.l0 k x0 x5 x6 (wrap64 (x7 + 1)))) else (none)) else (feature_Parse.l1 k x5 1)
def feature_Parse.l1 : Nat → List ByteArray → Int → Option (List ByteArray × Int)
  | 0, _, _ => none
  | k + 1, x5, x8 => if x8 < (x5.length : Int) then (if 0 ≤ (wrap64 (x8 - 1)) then (if (wrap64 (x8 - 1)) < (x5.length : Int) then (if 0 ≤ x8 then (if ((Op.bytesLess ((rdOf ByteArray.empty x5 (wrap64 (x8 - 1))).toList) ((rdOf ByteArray.empty x5 x8).toList)) = true) then (feature_Parse.l1 k x5 (wrap64 (x8 + 1))) else (some (([] : List ByteArray), 6))) else (none)) else (none)) else (none)) else (some (x5, 0))
end
def feature_Parse.f (k : Nat) (a0 : ByteArray) : Option (List ByteArray × Int) := (markup_ValidValue.f a0).bind fun t109 => (if t109 = 0 then (if a0.toList = ([124] : List UInt8) then (some (([] : List ByteArray), 0)) else (if (a0.size : Int) < 2 then (feature_Parse.j0 k a0 true) else (if 0 < (a0.size : Int) then (if (bt a0 0) = 124 then (if 0 ≤ (wrap64 ((a0.size : Int) - 1)) then (if (wrap64 ((a0.size : Int) - 1)) < (a0.size : Int) then (feature_Parse.j0 k a0 ((bt a0 (wrap64 ((a0.size : Int) - 1))) != 124)) else (none)) else (none)) else (feature_Parse.j0 k a0 true)) else (none)))) else (some (([] : List ByteArray), t109)))
theorem feature_Parse.mono_l : ∀ k, (∀ y0 y1, LeO (feature_Parse.j0 k y0 y1) (feature_Parse.j0 (k + 1) y0 y1)) ∧ (∀ y0 y1 y2 y3, LeO (feature_Parse.l0 k y0 y1 y2 y3) (feature_Parse.l0 (k + 1) y0 y1 y2 y3)) ∧ (∀ y0 y1, LeO (feature_Parse.l1 k y0 y1) (feature_Parse.l1 (k + 1) y0 y1))
  | 0 => ⟨fun _ _ r h => by simp [feature_Parse.j0] at h, fun _ _ _ _ r h => by simp [feature_Parse.l0] at h, fun _ _ r h => by simp [feature_Parse.l1] at h⟩
  | k + 1 => by
    obtain ⟨ih0, ih1, ih2⟩ := feature_Parse.mono_l k
    refine ⟨?_, ?_, ?_⟩
    · intro y0 y1
      unfold feature_Parse.j0
      repeat' first
      | (with_reducible exact ih0 _ _)
      | (with_reducible exact ih1 _ _ _ _)
      | (with_reducible exact ih2 _ _)
      | (with_reducible exact LeO.refl _)
      | (with_reducible exact LeO.none _)
      | (with_reducible refine LeO.ite ?_ ?_)
      | (with_reducible refine LeO.bind ?_ (fun _ => ?_))
      | exact ih0 _ _
      | exact ih1 _ _ _ _
      | exact ih2 _ _
      | exact LeO.none _
      | refine LeO.ite ?_ ?_
      | refine LeO.bind ?_ (fun _ => ?_)
    · intro y0 y1 y2 y3
      unfold feature_Parse.l0
      repeat' first
      | (with_reducible exact ih0 _ _)
      | (with_reducible exact ih1 _ _ _ _)
      | (with_reducible exact ih2 _ _)
      | (with_reducible exact LeO.refl _)
      | (with_reducible exact LeO.none _)
      | (with_reducible refine LeO.ite ?_ ?_)
      | (with_reducible refine LeO.bind ?_ (fun _ => ?_))
      | exact ih0 _ _
      | exact ih1 _ _ _ _
      | exact ih2 _ _
      | exact LeO.none _
      | refine LeO.ite ?_ ?_
      | refine LeO.bind ?_ (fun _ => ?_)
    · intro y0 y1
      unfold feature_Parse.l1
      repeat' first
      | (with_reducible exact ih0 _ _)
      | (with_reducible exact ih1 _ _ _ _)
      | (with_reducible exact ih2 _ _)
      | (with_reducible exact LeO.refl _)
      | (with_reducible exact LeO.none _)
      | (with_reducible refine LeO.ite ?_ ?_)
      | (with_reducible refine LeO.bind ?_ (fun _ => ?_))
      | exact ih0 _ _
      | exact ih1 _ _ _ _
      | exact ih2 _ _
      | exact LeO.none _
      | refine LeO.ite ?_ ?_
      | refine LeO.bind ?_ (fun _ => ?_)
theorem feature_Parse.mono : ∀ a0 k, LeO (feature_Parse.f k a0) (feature_Parse.f (k + 1) a0) := by
  intro a0 k
  obtain ⟨ih0, ih1, ih2⟩ := feature_Parse.mono_l k
  unfold feature_Parse.f
  repeat' first
      | (with_reducible exact ih0 _ _)
      | (with_reducible exact ih1 _ _ _ _)
      | (with_reducible exact ih2 _ _)
      | (with_reducible exact LeO.refl _)
      | (with_reducible exact LeO.none _)
      | (with_reducible refine LeO.ite ?_ ?_)
      | (with_reducible refine LeO.bind ?_ (fun _ => ?_))
      | exact ih0 _ _
      | exact ih1 _ _ _ _
      | exact ih2 _ _
      | exact LeO.none _
      | refine LeO.ite ?_ ?_
      | refine LeO.bind ?_ (fun _ => ?_)
set_option maxHeartbeats 8000000 in
set_option maxRecDepth 100000 in
theorem feature_Parse.calls (k : Nat) (a0 : ByteArray) (r1 : List ByteArray) (r2 : Int) (w : World) (h : feature_Parse.f k a0 = some (r1, r2)) :
    Calls Try.prog 12 #[.string a0] w fun e w' => ∃ v0_ : Value, e = .returned (.tuple #[v0_, .int .i64 r2]) ∧ Kd.R Kd.string 9 w' w.heap.size (fun _ => True) v0_ r1 ∧ Below w.heap.size w w' := by
  have HB := Aside0.mk (Below.refl w.heap.size w)
  have H : ((markup_ValidValue.f a0).bind fun t109 => (if t109 = 0 then (if a0.toList = ([124] : List UInt8) then (some (([] : List ByteArray), 0)) else (if (a0.size : Int) < 2 then (feature_Parse.j0 k a0 true) else (if 0 < (a0.size : Int) then (if (bt a0 0) = 124 then (if 0 ≤ (wrap64 ((a0.size : Int) - 1)) then (if (wrap64 ((a0.size : Int) - 1)) < (a0.size : Int) then (feature_Parse.j0 k a0 ((bt a0 (wrap64 ((a0.size : Int) - 1))) != 124)) else (none)) else (none)) else (feature_Parse.j0 k a0 true)) else (none)))) else (some (([] : List ByteArray), t109)))) = some (r1, r2) := h
  clear h
  replace H := Option.bind_eq_some_iff.mp H
  obtain ⟨t109, A20, H⟩ := H
  replace H : (if t109 = 0 then (if a0.toList = ([124] : List UInt8) then (some (([] : List ByteArray), 0)) else (if (a0.size : Int) < 2 then (feature_Parse.j0 k a0 true) else (if 0 < (a0.size : Int) then (if (bt a0 0) = 124 then (if 0 ≤ (wrap64 ((a0.size : Int) - 1)) then (if (wrap64 ((a0.size : Int) - 1)) < (a0.size : Int) then (feature_Parse.j0 k a0 ((bt a0 (wrap64 ((a0.size : Int) - 1))) != 124)) else (none)) else (none)) else (feature_Parse.j0 k a0 true)) else (none)))) else (some (([] : List ByteArray), t109))) = some (r1, r2) := H
  have A2 := Aside0.mk A20
  clear A20
  by_cases c3 : t109 = 0
  · rw [if_pos c3] at H
    have c3b0 : (t109 == 0) = true := beq_iff_eq.mpr c3
    have c3b1 : (t109 != 0) = false := bne_eq_false_iff_eq.mpr c3
    clear c3
    by_cases c4 : a0.toList = ([124] : List UInt8)
    · rw [if_pos c4] at H
      have c4b0 : (a0.toList == ([124] : List UInt8)) = true := beq_iff_eq.mpr c4
      have c4b1 : (a0.toList != ([124] : List UInt8)) = false := bne_eq_false_iff_eq.mpr c4
      clear c4
      simp only [Option.some.injEq, Prod.mk.injEq] at H
      obtain ⟨rfl, rfl⟩ := H
      go_enter Try.func12, Try.ntmps12
      go_wp2_with (first | (go_at_call 26; (with_reducible refine (markup_ValidValue.calls a0 t109 _ A2.out).mono ?_); rintro e w5 ⟨rfl, hb⟩; have n0_ := Aside0.mk (below_step (by repeat (first | (with_reducible first | exact HB.out | apply below_alloc | apply pw_below_drewN | apply below_drew1) | exact HB.out)) hb); clear HB; have HB := n0_; clear n0_; (try clear hb); (try clear hb2); (try clear hk); (try clear hi)))
      repeat (go_quiet (first | (go_at_call 26; (with_reducible refine (markup_ValidValue.calls a0 t109 _ A2.out).mono ?_); rintro e w5 ⟨rfl, hb⟩; have n0_ := Aside0.mk (below_step (by repeat (first | (with_reducible first | exact HB.out | apply below_alloc | apply pw_below_drewN | apply below_drew1) | exact HB.out)) hb); clear HB; have HB := n0_; clear n0_; (try clear hb); (try clear hb2); (try clear hk); (try clear hi))); try go_wp2_with (first | (go_at_call 26; (with_reducible refine (markup_ValidValue.calls a0 t109 _ A2.out).mono ?_); rintro e w5 ⟨rfl, hb⟩; have n0_ := Aside0.mk (below_step (by repeat (first | (with_reducible first | exact HB.out | apply below_alloc | apply pw_below_drewN | apply below_drew1) | exact HB.out)) hb); clear HB; have HB := n0_; clear n0_; (try clear hb); (try clear hb2); (try clear hk); (try clear hi))))
      go_ret2
      exact ⟨_, by first | rfl | (simp [errW_none, errW_some] <;> rfl) | (simp [*, errW_none, errW_some] <;> rfl), by first | exact Kd.R_nil _ _ _ _ _ | exact Kd.N_nil _ _ _ _ _ | exact Kd.V_nil _ _ _ _ _ | exact Kd.Q_nil _ _ _ _ _ | exact Kd.S_nil _ _ _ _ _, by repeat (first | (with_reducible first | exact HB.out | apply below_alloc | apply pw_below_drewN | apply below_drew1) | exact HB.out)⟩
    · rw [if_neg c4] at H
      have c4b0 : (a0.toList == ([124] : List UInt8)) = false := beq_eq_false_iff_ne.mpr c4
      have c4b1 : (a0.toList != ([124] : List UInt8)) = true := bne_iff_ne.mpr c4
      have HC6 := Aside0.mk H
      clear H
      go_enter Try.func12, Try.ntmps12
      go_upto_region 6 with (first | (go_at_call 26; (with_reducible refine (markup_ValidValue.calls a0 t109 _ A2.out).mono ?_); rintro e w7 ⟨rfl, hb⟩; have n0_ := Aside0.mk (below_step (by repeat (first | (with_reducible first | exact HB.out | apply below_alloc | apply pw_below_drewN | apply below_drew1) | exact HB.out)) hb); clear HB; have HB := n0_; clear n0_; (try clear hb); (try clear hb2); (try clear hk); (try clear hi)))
      repeat (go_quiet (first | (go_at_call 26; (with_reducible refine (markup_ValidValue.calls a0 t109 _ A2.out).mono ?_); rintro e w7 ⟨rfl, hb⟩; have n0_ := Aside0.mk (below_step (by repeat (first | (with_reducible first | exact HB.out | apply below_alloc | apply pw_below_drewN | apply below_drew1) | exact HB.out)) hb); clear HB; have HB := n0_; clear n0_; (try clear hb); (try clear hb2); (try clear hk); (try clear hi))); go_upto_region 6 with (first | (go_at_call 26; (with_reducible refine (markup_ValidValue.calls a0 t109 _ A2.out).mono ?_); rintro e w7 ⟨rfl, hb⟩; have n0_ := Aside0.mk (below_step (by repeat (first | (with_reducible first | exact HB.out | apply below_alloc | apply pw_below_drewN | apply below_drew1) | exact HB.out)) hb); clear HB; have HB := n0_; clear n0_; (try clear hb); (try clear hb2); (try clear hk); (try clear hi))))
      (try simp only [Act.put, List.setIfInBounds_toArray, List.set_cons_zero, List.set_cons_succ])
      go_cut [31] (fun v31 wc => ∃ (kq : Nat) (x31_5 : Bool), v31 = .bool x31_5 ∧ Aside0 (feature_Parse.j0 kq a0 x31_5 = some (r1, r2)) ∧ Aside0 (kq ≤ k) ∧ Aside0 (Below w.heap.size w wc))
      case first =>
        have H := HC6.out
        clear HC6
        by_cases c8 : (a0.size : Int) < 2
        · rw [if_pos c8] at H
          have c8b0 : decide ((a0.size : Int) < 2) = true := decide_eq_true c8
          have c8b1 : decide (a0.size < 2) = true := decide_eq_true (by omega)
          clear c8
          (first | rw [c8b0] | (simp only [i64_w, i32_w]; rw [c8b0]) | skip)
          have H' := Aside0.mk H
          clear H
          go_wp2
          repeat (go_quiet (fail); try go_wp2)
          go_meet
          case rel => exact ⟨_, (true), (by first | rfl | (simp; done) | (simp [*]; done)), H', ⟨by first | omega | exact Nat.le_refl _⟩, ⟨by repeat (first | (with_reducible first | exact HB.out | apply below_alloc | apply pw_below_drewN | apply below_drew1) | exact HB.out)⟩⟩
        · rw [if_neg c8] at H
          have c8b0 : decide ((a0.size : Int) < 2) = false := decide_eq_false c8
          have c8b1 : decide (a0.size < 2) = false := decide_eq_false (by omega)
          clear c8
          (first | rw [c8b0] | (simp only [i64_w, i32_w]; rw [c8b0]) | skip)
          by_cases c9 : 0 < (a0.size : Int)
          · rw [if_pos c9] at H
            have c9b0 : decide (0 < (a0.size : Int)) = true := decide_eq_true c9
            have c9b1 : decide (0 < a0.size) = true := decide_eq_true (by omega)
            clear c9
            by_cases c11 : (bt a0 0) = 124
            · rw [if_pos c11] at H
              have c11b0 : ((bt a0 0) == 124) = true := beq_iff_eq.mpr c11
              have c11b1 : ((bt a0 0) != 124) = false := bne_eq_false_iff_eq.mpr c11
              clear c11
              obtain ⟨ji12, hji12⟩ : ∃ j_ : Int, (wrap64 ((a0.size : Int) - 1)) = j_ := ⟨_, rfl⟩
              replace H : (if 0 ≤ (ji12) then (if (ji12) < (a0.size : Int) then (feature_Parse.j0 k a0 ((bt a0 (ji12)) != 124)) else (none)) else (none)) = some (r1, r2) := by first | (rw [hji12] at H; exact H) | (simp only [hji12] at H ⊢; exact H)
              have hji12w : (IntKind.i64.wrap ((a0.size : Int) - 1)) = ji12 := (i64_w _).trans hji12
              by_cases c13 : 0 ≤ (ji12)
              · rw [if_pos c13] at H
                have c13b0 : decide (0 ≤ (ji12)) = true := decide_eq_true c13
                clear c13
                by_cases c14 : (ji12) < (a0.size : Int)
                · rw [if_pos c14] at H
                  have c14b0 : decide ((ji12) < (a0.size : Int)) = true := decide_eq_true c14
                  clear c14
                  have H' := Aside0.mk H
                  clear H
                  have p10 : 0 ≤ (0 : Int) := (by omega)
                  have q10 : 0 < a0.size := (by have : (0 : Int) < (a0.size : Int) := of_decide_eq_true (by first | (with_reducible assumption) | assumption); omega)
                  have hx10 : ∀ h : 0 < a0.size, ((a0[0]'h).toNat : Int) = bt a0 0 := bt_at a0 0
                  clear p10
                  have qi10 : (0 < (a0.size : Int)) = True := eq_true (of_decide_eq_true (by first | (with_reducible assumption) | assumption))
                  replace q10 := eq_true q10
                  have p15 : 0 ≤ ((ji12) : Int) := of_decide_eq_true (by first | (with_reducible assumption) | assumption)
                  have q15 : (ji12) < (a0.size : Int) := of_decide_eq_true (by first | (with_reducible assumption) | assumption)
                  have hx15 := bt_at a0 (ji12)
                  replace p15 := eq_true p15
                  replace q15 := eq_true q15
                  go_wp2
                  repeat (go_quiet (fail); try go_wp2)
                  go_meet
                  case rel => exact ⟨_, (((bt a0 (ji12)) != 124)), (by first | rfl | (simp; done) | (simp only [← hji12] <;> (first | rfl | simp)) | (simp [*]; done)), H', ⟨by first | omega | exact Nat.le_refl _⟩, ⟨by repeat (first | (with_reducible first | exact HB.out | apply below_alloc | apply pw_below_drewN | apply below_drew1) | exact HB.out)⟩⟩
                · rw [if_neg c14] at H
                  exact absurd H (by simp)
              · rw [if_neg c13] at H
                exact absurd H (by simp)
            · rw [if_neg c11] at H
              have c11b0 : ((bt a0 0) == 124) = false := beq_eq_false_iff_ne.mpr c11
              have c11b1 : ((bt a0 0) != 124) = true := bne_iff_ne.mpr c11
              have H' := Aside0.mk H
              clear H
              have p10 : 0 ≤ (0 : Int) := (by omega)
              have q10 : 0 < a0.size := (by have : (0 : Int) < (a0.size : Int) := of_decide_eq_true (by first | (with_reducible assumption) | assumption); omega)
              have hx10 : ∀ h : 0 < a0.size, ((a0[0]'h).toNat : Int) = bt a0 0 := bt_at a0 0
              clear p10
              have qi10 : (0 < (a0.size : Int)) = True := eq_true (of_decide_eq_true (by first | (with_reducible assumption) | assumption))
              replace q10 := eq_true q10
              go_wp2
              repeat (go_quiet (fail); try go_wp2)
              go_meet
              case rel => exact ⟨_, (true), (by first | rfl | (simp; done) | (simp [*]; done)), H', ⟨by first | omega | exact Nat.le_refl _⟩, ⟨by repeat (first | (with_reducible first | exact HB.out | apply below_alloc | apply pw_below_drewN | apply below_drew1) | exact HB.out)⟩⟩
          · rw [if_neg c9] at H
            exact absurd H (by simp)
      case rest =>
        clear HC6
        try clear c1
        try clear p1
        try clear q1
        try clear hx1
        try clear qi1
        try clear p2
        try clear c3
        try clear c3b0
        try clear c3b1
        try clear c4
        try clear c4b0
        try clear c4b1
        try clear p6
        try clear c8
        try clear c8b0
        try clear c8b1
        try clear c9
        try clear c9b0
        try clear c9b1
        try clear p10
        try clear q10
        try clear hx10
        try clear qi10
        try clear c11
        try clear c11b0
        try clear c11b1
        try clear c12
        try clear c13
        try clear c13b0
        try clear c14
        try clear c14b0
        try clear p15
        try clear q15
        try clear hx15
        try clear p10
        try clear p15
        try clear q10
        try clear q15
        obtain ⟨kq, x31_5, rfl, HA, HJ5, HB⟩ := hcut
        cases kq with
        | zero => exact absurd HA.out (by simp [feature_Parse.j0])
        | succ kj5 =>
          have H := HA.out
          clear HA
          simp only [feature_Parse.j0] at H
          by_cases c16 : x31_5 = true
          · subst c16
            have H1 : (some (([] : List ByteArray), 3)) = some (r1, r2) := by rw [if_pos rfl] at H; exact H
            clear H
            have H := H1
            clear H1
            simp only [Option.some.injEq, Prod.mk.injEq] at H
            obtain ⟨rfl, rfl⟩ := H
            go_wp2
            repeat (go_quiet (fail); try go_wp2)
            go_ret2
            exact ⟨_, by first | rfl | (simp [errW_none, errW_some] <;> rfl) | (simp [*, errW_none, errW_some] <;> rfl), by first | exact Kd.R_nil _ _ _ _ _ | exact Kd.N_nil _ _ _ _ _ | exact Kd.V_nil _ _ _ _ _ | exact Kd.Q_nil _ _ _ _ _ | exact Kd.S_nil _ _ _ _ _, by repeat (first | (with_reducible first | exact HB.out | apply below_alloc | apply pw_below_drewN | apply below_drew1) | exact HB.out)⟩
          · replace c16 := Bool.eq_false_iff.mpr c16
            subst c16
            have H1 : (feature_Parse.l0 kj5 a0 ([] : List ByteArray) 1 1) = some (r1, r2) := by rw [if_neg (show ¬ (false = true) by decide)] at H; exact H
            clear H
            have H := H1
            clear H1
            have H' := Aside0.mk H
            clear H
            go_wp2
            repeat (go_quiet (fail); try go_wp2)
            go_loopg [5, 6, 7] kj5 (fun kq v5 v6 v7 w' => ∃ (x5_2 : List ByteArray) (x6_2 : Int) (x7_2 : Int), v6 = .int .i64 x6_2 ∧ v7 = .int .i64 x7_2 ∧ Aside0 (feature_Parse.l0 kq a0 x5_2 x6_2 x7_2 = some (r1, r2)) ∧ Aside0 (kq ≤ kj5) ∧ Aside0 (Kd.R Kd.string 9 w' w.heap.size (fun _ => True) v5 x5_2) ∧ Aside0 (Below w.heap.size w w'))
            case atStart => exact ⟨(([] : List ByteArray)), (1), (1), (by first | rfl | (simp; done) | (simp [*]; done)), (by first | rfl | (simp; done) | (simp [*]; done)), H', ⟨Nat.le_refl _⟩, ⟨by first | exact Kd.R_nil _ _ _ _ _ | exact Kd.N_nil _ _ _ _ _ | exact Kd.V_nil _ _ _ _ _ | exact Kd.Q_nil _ _ _ _ _ | exact Kd.S_nil _ _ _ _ _⟩, ⟨by repeat (first | (with_reducible first | exact HB.out | apply below_alloc | apply pw_below_drewN | apply below_drew1) | exact HB.out)⟩⟩
            case round =>
              clear H'
              try clear c1
              try clear p1
              try clear q1
              try clear hx1
              try clear qi1
              try clear p2
              try clear c3
              try clear c3b0
              try clear c3b1
              try clear c4
              try clear c4b0
              try clear c4b1
              try clear p6
              try clear c8
              try clear c8b0
              try clear c8b1
              try clear c9
              try clear c9b0
              try clear c9b1
              try clear p10
              try clear q10
              try clear hx10
              try clear qi10
              try clear c11
              try clear c11b0
              try clear c11b1
              try clear c12
              try clear c13
              try clear c13b0
              try clear c14
              try clear c14b0
              try clear p15
              try clear q15
              try clear hx15
              try clear c16
              try clear p1
              try clear p10
              try clear p15
              try clear p2
              try clear p6
              try clear q1
              try clear q10
              try clear q15
              obtain ⟨x5_2, x6_2, x7_2, rfl, rfl, HA, HK2, HO_5, HB⟩ := hrel
              cases gk with
              | zero => exact absurd HA.out (by simp [feature_Parse.l0])
              | succ k2 =>
                have H := HA.out
                clear HA
                simp only [feature_Parse.l0] at H
                by_cases c17 : x7_2 < (a0.size : Int)
                · rw [if_pos c17] at H
                  have c17b0 : decide (x7_2 < (a0.size : Int)) = true := decide_eq_true c17
                  clear c17
                  by_cases c18 : 0 ≤ x7_2
                  · rw [if_pos c18] at H
                    have c18b0 : decide (0 ≤ x7_2) = true := decide_eq_true c18
                    clear c18
                    by_cases c20 : (bt a0 x7_2) = 124
                    · rw [if_pos c20] at H
                      have c20b0 : ((bt a0 x7_2) == 124) = true := beq_iff_eq.mpr c20
                      have c20b1 : ((bt a0 x7_2) != 124) = false := bne_eq_false_iff_eq.mpr c20
                      clear c20
                      by_cases c21 : x7_2 = x6_2
                      · rw [if_pos c21] at H
                        have c21b0 : (x7_2 == x6_2) = true := beq_iff_eq.mpr c21
                        have c21b1 : (x7_2 != x6_2) = false := bne_eq_false_iff_eq.mpr c21
                        clear c21
                        simp only [Option.some.injEq, Prod.mk.injEq] at H
                        obtain ⟨rfl, rfl⟩ := H
                        have p19 : 0 ≤ (x7_2 : Int) := of_decide_eq_true (by first | (with_reducible assumption) | assumption)
                        have q19 : x7_2 < (a0.size : Int) := of_decide_eq_true (by first | (with_reducible assumption) | assumption)
                        have hx19 := bt_at a0 x7_2
                        replace p19 := eq_true p19
                        replace q19 := eq_true q19
                        go_wp2
                        repeat (go_quiet (fail); try go_wp2)
                        go_ret2
                        exact ⟨_, by first | rfl | (simp [errW_none, errW_some] <;> rfl) | (simp [*, errW_none, errW_some] <;> rfl), by first | exact Kd.R_nil _ _ _ _ _ | exact Kd.N_nil _ _ _ _ _ | exact Kd.V_nil _ _ _ _ _ | exact Kd.Q_nil _ _ _ _ _ | exact Kd.S_nil _ _ _ _ _, by repeat (first | (with_reducible first | exact HB.out | apply below_alloc | apply pw_below_drewN | apply below_drew1) | exact HB.out)⟩
                      · rw [if_neg c21] at H
                        have c21b0 : (x7_2 == x6_2) = false := beq_eq_false_iff_ne.mpr c21
                        have c21b1 : (x7_2 != x6_2) = true := bne_iff_ne.mpr c21
                        by_cases c22 : 0 ≤ x6_2
                        · rw [if_pos c22] at H
                          have c22b0 := eq_true c22
                          have c22b1 : decide (0 ≤ x6_2) = true := decide_eq_true c22
                          clear c22
                          by_cases c23 : x6_2 ≤ x7_2
                          · rw [if_pos c23] at H
                            have c23b0 := eq_true c23
                            have c23b1 : decide (x6_2 ≤ x7_2) = true := decide_eq_true c23
                            clear c23
                            by_cases c24 : x7_2 ≤ (a0.size : Int)
                            · rw [if_pos c24] at H
                              have c24b0 := eq_true c24
                              have c24b1 : decide (x7_2 ≤ (a0.size : Int)) = true := decide_eq_true c24
                              clear c24
                              by_cases c25 : x5_2.length < 8796093022208
                              · rw [if_pos c25] at H
                                have LMc25 := Aside0.mk c25
                                clear c25
                                obtain ⟨y110, hy110⟩ : ∃ y_ : List ByteArray, y_ = (x5_2 ++ [a0.extract (x6_2 : Int).toNat (x7_2 : Int).toNat]) := ⟨_, rfl⟩
                                replace H : (feature_Parse.l0 k2 a0 y110 (wrap64 (x7_2 + 1)) (wrap64 (x7_2 + 1))) = some (r1, r2) := by first | (rw [hy110]; with_reducible exact H) | (have H2_ := (Option.bind_some _ _).symm.trans H; rw [hy110]; with_reducible exact H2_) | (have H2_ := (Option.bind_some _ _).symm.trans H; with_reducible exact H2_) | with_reducible exact H | (rw [hy110]; exact H) | exact H
                                have Ny110 := Aside0.mk hy110
                                clear hy110
                                have H' := Aside0.mk H
                                clear H
                                have p19 : 0 ≤ (x7_2 : Int) := of_decide_eq_true (by first | (with_reducible assumption) | assumption)
                                have q19 : x7_2 < (a0.size : Int) := of_decide_eq_true (by first | (with_reducible assumption) | assumption)
                                have hx19 := bt_at a0 x7_2
                                replace p19 := eq_true p19
                                replace q19 := eq_true q19
                                go_wp2_with (first | ((with_reducible refine gate_builtin (b := .append) (xs := #[.tmp 45, .tmp 50]) rfl ?_); (try (refine gate_guard (by rfl) ?_; dsimp only)); at_builtin; refine Kd.R_append Kd.string (w0 := w) w.heap.size rfl (.tmp 45) (.tmp 50) 23 9 (.string ⟨#[]⟩) 16 rfl Try.underlying23 info9 rfl (by decide) (by omega) u5 x5_2 (a0.extract (x6_2 : Int).toNat (x7_2 : Int).toNat) [.string (a0.extract (x6_2 : Int).toNat (x7_2 : Int).toNat)] (fun _ => True) (fun _ => False) rfl rfl ?aP (fun _ hk => hk.elim) ?aF ?aO ?aB ?aS ?aL ?_; (case aP => exact rfl); (case aB => exact (by repeat (first | (with_reducible first | exact HB.out | apply below_alloc | apply pw_below_drewN | apply below_drew1) | exact HB.out))); (case aF => exact (fun _ _ => trivial)); (case aO => exact (by (with_reducible repeat (first | apply Kd.R_alloc | apply Kd.R_drewN | apply Kd.R_drew)); exact HO_5.out)); (case aS => exact (below_size (by repeat (first | (with_reducible first | exact HB.out | apply below_alloc | apply pw_below_drewN | apply below_drew1) | exact HB.out)))); (case aL => have := LMc25.out; omega); intro v111 w26 ho hb hg hat; rw [← Ny110.out] at ho; have n0_ := Aside0.mk (hb); have n1_ := Aside0.mk (ho); clear HB; clear HO_5; have HB := n0_; have HO112 := n1_; clear n0_ n1_; clear ho hb hg hat))
                                repeat (go_quiet (first | ((with_reducible refine gate_builtin (b := .append) (xs := #[.tmp 45, .tmp 50]) rfl ?_); (try (refine gate_guard (by rfl) ?_; dsimp only)); at_builtin; refine Kd.R_append Kd.string (w0 := w) w.heap.size rfl (.tmp 45) (.tmp 50) 23 9 (.string ⟨#[]⟩) 16 rfl Try.underlying23 info9 rfl (by decide) (by omega) u5 x5_2 (a0.extract (x6_2 : Int).toNat (x7_2 : Int).toNat) [.string (a0.extract (x6_2 : Int).toNat (x7_2 : Int).toNat)] (fun _ => True) (fun _ => False) rfl rfl ?aP (fun _ hk => hk.elim) ?aF ?aO ?aB ?aS ?aL ?_; (case aP => exact rfl); (case aB => exact (by repeat (first | (with_reducible first | exact HB.out | apply below_alloc | apply pw_below_drewN | apply below_drew1) | exact HB.out))); (case aF => exact (fun _ _ => trivial)); (case aO => exact (by (with_reducible repeat (first | apply Kd.R_alloc | apply Kd.R_drewN | apply Kd.R_drew)); exact HO_5.out)); (case aS => exact (below_size (by repeat (first | (with_reducible first | exact HB.out | apply below_alloc | apply pw_below_drewN | apply below_drew1) | exact HB.out)))); (case aL => have := LMc25.out; omega); intro v111 w26 ho hb hg hat; rw [← Ny110.out] at ho; have n0_ := Aside0.mk (hb); have n1_ := Aside0.mk (ho); clear HB; clear HO_5; have HB := n0_; have HO112 := n1_; clear n0_ n1_; clear ho hb hg hat)); try go_wp2_with (first | ((with_reducible refine gate_builtin (b := .append) (xs := #[.tmp 45, .tmp 50]) rfl ?_); (try (refine gate_guard (by rfl) ?_; dsimp only)); at_builtin; refine Kd.R_append Kd.string (w0 := w) w.heap.size rfl (.tmp 45) (.tmp 50) 23 9 (.string ⟨#[]⟩) 16 rfl Try.underlying23 info9 rfl (by decide) (by omega) u5 x5_2 (a0.extract (x6_2 : Int).toNat (x7_2 : Int).toNat) [.string (a0.extract (x6_2 : Int).toNat (x7_2 : Int).toNat)] (fun _ => True) (fun _ => False) rfl rfl ?aP (fun _ hk => hk.elim) ?aF ?aO ?aB ?aS ?aL ?_; (case aP => exact rfl); (case aB => exact (by repeat (first | (with_reducible first | exact HB.out | apply below_alloc | apply pw_below_drewN | apply below_drew1) | exact HB.out))); (case aF => exact (fun _ _ => trivial)); (case aO => exact (by (with_reducible repeat (first | apply Kd.R_alloc | apply Kd.R_drewN | apply Kd.R_drew)); exact HO_5.out)); (case aS => exact (below_size (by repeat (first | (with_reducible first | exact HB.out | apply below_alloc | apply pw_below_drewN | apply below_drew1) | exact HB.out)))); (case aL => have := LMc25.out; omega); intro v111 w26 ho hb hg hat; rw [← Ny110.out] at ho; have n0_ := Aside0.mk (hb); have n1_ := Aside0.mk (ho); clear HB; clear HO_5; have HB := n0_; have HO112 := n1_; clear n0_ n1_; clear ho hb hg hat)))
                                go_roundg k2
                                case measure => have := HJ5.out; have := HK2.out; omega
                                case rel => exact ⟨(y110), (wrap64 (x7_2 + 1)), (wrap64 (x7_2 + 1)), (by first | rfl | (simp; done) | (simp [*]; done)), (by first | rfl | (simp; done) | (simp [*]; done)), H', ⟨by have := HJ5.out; have := HK2.out; omega⟩, ⟨by (with_reducible repeat (first | apply Kd.R_alloc | apply Kd.R_drewN | apply Kd.R_drew)); exact HO112.out⟩, ⟨by repeat (first | (with_reducible first | exact HB.out | apply below_alloc | apply pw_below_drewN | apply below_drew1) | exact HB.out)⟩⟩
                              · rw [if_neg c25] at H
                                exact absurd H (by simp)
                            · rw [if_neg c24] at H
                              exact absurd H (by simp)
                          · rw [if_neg c23] at H
                            exact absurd H (by simp)
                        · rw [if_neg c22] at H
                          exact absurd H (by simp)
                    · rw [if_neg c20] at H
                      have c20b0 : ((bt a0 x7_2) == 124) = false := beq_eq_false_iff_ne.mpr c20
                      have c20b1 : ((bt a0 x7_2) != 124) = true := bne_iff_ne.mpr c20
                      have H' := Aside0.mk H
                      clear H
                      have p19 : 0 ≤ (x7_2 : Int) := of_decide_eq_true (by first | (with_reducible assumption) | assumption)
                      have q19 : x7_2 < (a0.size : Int) := of_decide_eq_true (by first | (with_reducible assumption) | assumption)
                      have hx19 := bt_at a0 x7_2
                      replace p19 := eq_true p19
                      replace q19 := eq_true q19
                      go_wp2
                      repeat (go_quiet (fail); try go_wp2)
                      go_roundg k2
                      case measure => have := HJ5.out; have := HK2.out; omega
                      case rel => exact ⟨(x5_2), (x6_2), (wrap64 (x7_2 + 1)), (by first | rfl | (simp; done) | (simp [*]; done)), (by first | rfl | (simp; done) | (simp [*]; done)), H', ⟨by have := HJ5.out; have := HK2.out; omega⟩, ⟨by (with_reducible repeat (first | apply Kd.R_alloc | apply Kd.R_drewN | apply Kd.R_drew)); exact HO_5.out⟩, ⟨by repeat (first | (with_reducible first | exact HB.out | apply below_alloc | apply pw_below_drewN | apply below_drew1) | exact HB.out)⟩⟩
                  · rw [if_neg c18] at H
                    exact absurd H (by simp)
                · rw [if_neg c17] at H
                  have c17b0 : decide (x7_2 < (a0.size : Int)) = false := decide_eq_false c17
                  clear c17
                  have H' := Aside0.mk H
                  clear H
                  go_wp2
                  repeat (go_quiet (fail); try go_wp2)
                  go_loopg [8] k2 (fun kq v8 w' => ∃ (x8_3 : Int), v8 = .int .i64 x8_3 ∧ Aside0 (feature_Parse.l1 kq x5_2 x8_3 = some (r1, r2)) ∧ Aside0 (kq ≤ k2) ∧ Aside0 (Kd.R Kd.string 9 w' w.heap.size (fun _ => True) u5 x5_2) ∧ Aside0 (Below w.heap.size w w'))
                  case atStart => exact ⟨(1), (by first | rfl | (simp; done) | (simp [*]; done)), H', ⟨Nat.le_refl _⟩, ⟨by (with_reducible repeat (first | apply Kd.R_alloc | apply Kd.R_drewN | apply Kd.R_drew)); exact HO_5.out⟩, ⟨by repeat (first | (with_reducible first | exact HB.out | apply below_alloc | apply pw_below_drewN | apply below_drew1) | exact HB.out)⟩⟩
                  case round =>
                    clear H'
                    try clear c1
                    try clear p1
                    try clear q1
                    try clear hx1
                    try clear qi1
                    try clear c2
                    try clear p2
                    try clear c3
                    try clear c3b0
                    try clear c3b1
                    try clear c4
                    try clear c4b0
                    try clear c4b1
                    try clear p6
                    try clear c8
                    try clear c8b0
                    try clear c8b1
                    try clear c9
                    try clear c9b0
                    try clear c9b1
                    try clear p10
                    try clear q10
                    try clear hx10
                    try clear qi10
                    try clear c11
                    try clear c11b0
                    try clear c11b1
                    try clear c12
                    try clear c13
                    try clear c13b0
                    try clear c14
                    try clear c14b0
                    try clear p15
                    try clear q15
                    try clear hx15
                    try clear c16
                    try clear c17
                    try clear c17b0
                    try clear c18
                    try clear c18b0
                    try clear p19
                    try clear q19
                    try clear hx19
                    try clear c20
                    try clear c20b0
                    try clear c20b1
                    try clear c21
                    try clear c21b0
                    try clear c21b1
                    try clear c22
                    try clear c22b0
                    try clear c22b1
                    try clear c23
                    try clear c23b0
                    try clear c23b1
                    try clear c24
                    try clear c24b0
                    try clear c24b1
                    try clear c25
                    try clear p1
                    try clear p10
                    try clear p15
                    try clear p19
                    try clear p2
                    try clear p6
                    try clear q1
                    try clear q10
                    try clear q15
                    try clear q19
                    obtain ⟨x8_3, rfl, HA, HK3, HO_5, HB⟩ := hrel
                    cases gk with
                    | zero => exact absurd HA.out (by simp [feature_Parse.l1])
                    | succ k3 =>
                      have H := HA.out
                      clear HA
                      simp only [feature_Parse.l1] at H
                      by_cases c27 : x8_3 < (x5_2.length : Int)
                      · rw [if_pos c27] at H
                        have c27b0 : decide (x8_3 < (x5_2.length : Int)) = true := decide_eq_true c27
                        clear c27
                        obtain ⟨ji28, hji28⟩ : ∃ j_ : Int, (wrap64 (x8_3 - 1)) = j_ := ⟨_, rfl⟩
                        replace H : (if 0 ≤ (ji28) then (if (ji28) < (x5_2.length : Int) then (if 0 ≤ x8_3 then (if ((Op.bytesLess ((rdOf ByteArray.empty x5_2 (ji28)).toList) ((rdOf ByteArray.empty x5_2 x8_3).toList)) = true) then (feature_Parse.l1 k3 x5_2 (wrap64 (x8_3 + 1))) else (some (([] : List ByteArray), 6))) else (none)) else (none)) else (none)) = some (r1, r2) := by first | (rw [hji28] at H; exact H) | (simp only [hji28] at H ⊢; exact H)
                        have hji28w : (IntKind.i64.wrap (x8_3 - 1)) = ji28 := (i64_w _).trans hji28
                        by_cases c29 : 0 ≤ (ji28)
                        · rw [if_pos c29] at H
                          have c29b0 : decide (0 ≤ (ji28)) = true := decide_eq_true c29
                          clear c29
                          by_cases c30 : (ji28) < (x5_2.length : Int)
                          · rw [if_pos c30] at H
                            have c30b0 : decide ((ji28) < (x5_2.length : Int)) = true := decide_eq_true c30
                            clear c30
                            by_cases c31 : 0 ≤ x8_3
                            · rw [if_pos c31] at H
                              have c31b0 : decide (0 ≤ x8_3) = true := decide_eq_true c31
                              clear c31
                              by_cases c32 : ((Op.bytesLess ((rdOf ByteArray.empty x5_2 (ji28)).toList) ((rdOf ByteArray.empty x5_2 x8_3).toList)) = true)
                              · rw [if_pos c32] at H
                                have c32b0 : (Op.bytesLess ((rdOf ByteArray.empty x5_2 (ji28)).toList) ((rdOf ByteArray.empty x5_2 x8_3).toList)) = true := c32
                                clear c32
                                have H' := Aside0.mk H
                                clear H
                                obtain ⟨Ao33, co33, eo33⟩ := Kd.R_slice HO_5.out
                                subst eo33
                                have p113 : 0 ≤ ((ji28) : Int) := of_decide_eq_true (by first | (with_reducible assumption) | assumption)
                                have q113 : (ji28) < (x5_2.length : Int) := of_decide_eq_true (by first | (with_reducible assumption) | assumption)
                                obtain ⟨ad113, e113, hx113_0⟩ := Kd.at_string (Kd.R_reads' HO_5.out).2.2 (ji28) p113 q113
                                cases e113
                                replace p113 := eq_true p113
                                replace q113 := eq_true q113
                                have p114 : 0 ≤ (x8_3 : Int) := of_decide_eq_true (by first | (with_reducible assumption) | assumption)
                                have q114 : x8_3 < (x5_2.length : Int) := of_decide_eq_true (by first | (with_reducible assumption) | assumption)
                                obtain ⟨ad114, e114, hx114_0⟩ := Kd.at_string (Kd.R_reads' HO_5.out).2.2 x8_3 p114 q114
                                obtain rfl : ad113 = ad114 := (by injection e114)
                                replace p114 := eq_true p114
                                replace q114 := eq_true q114
                                go_wp2
                                repeat (go_quiet (fail); try go_wp2)
                                go_roundg k3
                                case measure => have := HJ5.out; have := HK2.out; have := HK3.out; omega
                                case rel => exact ⟨(wrap64 (x8_3 + 1)), (by first | rfl | (simp; done) | (simp [*]; done)), H', ⟨by have := HJ5.out; have := HK2.out; have := HK3.out; omega⟩, ⟨by (with_reducible repeat (first | apply Kd.R_alloc | apply Kd.R_drewN | apply Kd.R_drew)); exact HO_5.out⟩, ⟨by repeat (first | (with_reducible first | exact HB.out | apply below_alloc | apply pw_below_drewN | apply below_drew1) | exact HB.out)⟩⟩
                              · rw [if_neg c32] at H
                                have c32b0 : (Op.bytesLess ((rdOf ByteArray.empty x5_2 (ji28)).toList) ((rdOf ByteArray.empty x5_2 x8_3).toList)) = false := by simpa using c32
                                clear c32
                                simp only [Option.some.injEq, Prod.mk.injEq] at H
                                obtain ⟨rfl, rfl⟩ := H
                                obtain ⟨Ao34, co34, eo34⟩ := Kd.R_slice HO_5.out
                                subst eo34
                                have p113 : 0 ≤ ((ji28) : Int) := of_decide_eq_true (by first | (with_reducible assumption) | assumption)
                                have q113 : (ji28) < (x5_2.length : Int) := of_decide_eq_true (by first | (with_reducible assumption) | assumption)
                                obtain ⟨ad113, e113, hx113_0⟩ := Kd.at_string (Kd.R_reads' HO_5.out).2.2 (ji28) p113 q113
                                cases e113
                                replace p113 := eq_true p113
                                replace q113 := eq_true q113
                                have p114 : 0 ≤ (x8_3 : Int) := of_decide_eq_true (by first | (with_reducible assumption) | assumption)
                                have q114 : x8_3 < (x5_2.length : Int) := of_decide_eq_true (by first | (with_reducible assumption) | assumption)
                                obtain ⟨ad114, e114, hx114_0⟩ := Kd.at_string (Kd.R_reads' HO_5.out).2.2 x8_3 p114 q114
                                obtain rfl : ad113 = ad114 := (by injection e114)
                                replace p114 := eq_true p114
                                replace q114 := eq_true q114
                                go_wp2
                                repeat (go_quiet (fail); try go_wp2)
                                go_ret2
                                exact ⟨_, by first | rfl | (simp [errW_none, errW_some] <;> rfl) | (simp only [← hji28]; first | rfl | (simp [errW_none, errW_some] <;> rfl)) | (simp [*, errW_none, errW_some] <;> rfl), by first | exact Kd.R_nil _ _ _ _ _ | exact Kd.N_nil _ _ _ _ _ | exact Kd.V_nil _ _ _ _ _ | exact Kd.Q_nil _ _ _ _ _ | exact Kd.S_nil _ _ _ _ _, by repeat (first | (with_reducible first | exact HB.out | apply below_alloc | apply pw_below_drewN | apply below_drew1) | exact HB.out)⟩
                            · rw [if_neg c31] at H
                              exact absurd H (by simp)
                          · rw [if_neg c30] at H
                            exact absurd H (by simp)
                        · rw [if_neg c29] at H
                          exact absurd H (by simp)
                      · rw [if_neg c27] at H
                        have c27b0 : decide (x8_3 < (x5_2.length : Int)) = false := decide_eq_false c27
                        clear c27
                        simp only [Option.some.injEq, Prod.mk.injEq] at H
                        obtain ⟨rfl, rfl⟩ := H
                        obtain ⟨Ao35, co35, eo35⟩ := Kd.R_slice HO_5.out
                        subst eo35
                        go_wp2
                        repeat (go_quiet (fail); try go_wp2)
                        go_ret2
                        exact ⟨_, by first | rfl | (simp [errW_none, errW_some] <;> rfl) | (simp [*, errW_none, errW_some] <;> rfl), by (with_reducible repeat (first | apply Kd.R_alloc | apply Kd.R_drewN | apply Kd.R_drew)); exact HO_5.out, by repeat (first | (with_reducible first | exact HB.out | apply below_alloc | apply pw_below_drewN | apply below_drew1) | exact HB.out)⟩
  · rw [if_neg c3] at H
    have c3b0 : (t109 == 0) = false := beq_eq_false_iff_ne.mpr c3
    have c3b1 : (t109 != 0) = true := bne_iff_ne.mpr c3
    simp only [Option.some.injEq, Prod.mk.injEq] at H
    obtain ⟨rfl, rfl⟩ := H
    go_enter Try.func12, Try.ntmps12
    go_wp2_with (first | (go_at_call 26; (with_reducible refine (markup_ValidValue.calls a0 t109 _ A2.out).mono ?_); rintro e w36 ⟨rfl, hb⟩; have n0_ := Aside0.mk (below_step (by repeat (first | (with_reducible first | exact HB.out | apply below_alloc | apply pw_below_drewN | apply below_drew1) | exact HB.out)) hb); clear HB; have HB := n0_; clear n0_; (try clear hb); (try clear hb2); (try clear hk); (try clear hi)))
    repeat (go_quiet (first | (go_at_call 26; (with_reducible refine (markup_ValidValue.calls a0 t109 _ A2.out).mono ?_); rintro e w36 ⟨rfl, hb⟩; have n0_ := Aside0.mk (below_step (by repeat (first | (with_reducible first | exact HB.out | apply below_alloc | apply pw_below_drewN | apply below_drew1) | exact HB.out)) hb); clear HB; have HB := n0_; clear n0_; (try clear hb); (try clear hb2); (try clear hk); (try clear hi))); try go_wp2_with (first | (go_at_call 26; (with_reducible refine (markup_ValidValue.calls a0 t109 _ A2.out).mono ?_); rintro e w36 ⟨rfl, hb⟩; have n0_ := Aside0.mk (below_step (by repeat (first | (with_reducible first | exact HB.out | apply below_alloc | apply pw_below_drewN | apply below_drew1) | exact HB.out)) hb); clear HB; have HB := n0_; clear n0_; (try clear hb); (try clear hb2); (try clear hk); (try clear hi))))
    go_ret2
    exact ⟨_, by first | rfl | (simp [errW_none, errW_some] <;> rfl) | (simp [*, errW_none, errW_some] <;> rfl), by first | exact Kd.R_nil _ _ _ _ _ | exact Kd.N_nil _ _ _ _ _ | exact Kd.V_nil _ _ _ _ _ | exact Kd.Q_nil _ _ _ _ _ | exact Kd.S_nil _ _ _ _ _, by repeat (first | (with_reducible first | exact HB.out | apply below_alloc | apply pw_below_drewN | apply below_drew1) | exact HB.out)⟩

end Go.Proofs.Ytcgglamgemgeiaa.Q
/- FFeatureParseAll -/
namespace Go.Proofs.Ytcgglamgemgeiaa.Q
open Go.RowKit Go.Proofs.YtcgglamgemgeiaaW.PrintWords Go.Proofs.YtcgglamgemgeiaaW.PrintLast Go.Proofs.YtcgglamgemgeiaaW.PrintMore
attribute [local go_sem] max2_int min2_int max_two min_two max_three min_three max_four min_four   -- for this text's walks alone
set_option linter.unusedVariables false
set_option linter.unusedSimpArgs false

/-! ### feature_parseAll: function 35 -/
def feature_parseAll.l0 : Nat → List (List ByteArray) → List ByteArray → Int → Int → Option ((List (List ByteArray)) × Int)
  | 0, _, _, _, _ => none
  | k + 1, x4, x9, x10, x11 => if x11 < x10 then (if 0 ≤ x11 then (if x11 < (x9.length : Int) then ((feature_Parse.f k (rdOf ByteArray.empty x9 x11)).bind fun bt190 => (if bt190.2 = 0 then (if x4.length < 5864062014805 then (feature_parseAll.l0 k (x4 ++ [bt190.1]) x9 x10 (wrap64 (x11 + 1))) else (none)) else (some (([] : List (List ByteArray)), bt190.2)))) else (none)) else (none)) else (some (x4, 0))
def feature_parseAll.f (k : Nat) (l0 : List ByteArray) : Option ((List (List ByteArray)) × Int) := feature_parseAll.l0 k ([] : List (List ByteArray)) l0 (l0.length : Int) 0
theorem feature_parseAll.mono_l : ∀ k, (∀ y0 y1 y2 y3, LeO (feature_parseAll.l0 k y0 y1 y2 y3) (feature_parseAll.l0 (k + 1) y0 y1 y2 y3))
  | 0 => fun _ _ _ _ r h => by simp [feature_parseAll.l0] at h
  | k + 1 => by
    have ih0 := feature_parseAll.mono_l k
    · intro y0 y1 y2 y3
      unfold feature_parseAll.l0
      repeat' first
      | (with_reducible exact ih0 _ _ _ _)
      | (with_reducible exact feature_Parse.mono _ _)
      | (with_reducible exact LeO.refl _)
      | (with_reducible exact LeO.none _)
      | (with_reducible refine LeO.ite ?_ ?_)
      | (with_reducible refine LeO.bind ?_ (fun _ => ?_))
      | exact ih0 _ _ _ _
      | exact feature_Parse.mono _ _
      | exact LeO.none _
      | refine LeO.ite ?_ ?_
      | refine LeO.bind ?_ (fun _ => ?_)
theorem feature_parseAll.mono : ∀ a0 k, LeO (feature_parseAll.f k a0) (feature_parseAll.f (k + 1) a0) := by
  intro a0 k
  have ih0 := feature_parseAll.mono_l k
  unfold feature_parseAll.f
  repeat' first
      | (with_reducible exact ih0 _ _ _ _)
      | (with_reducible exact feature_Parse.mono _ _)
      | (with_reducible exact LeO.refl _)
      | (with_reducible exact LeO.none _)
      | (with_reducible refine LeO.ite ?_ ?_)
      | (with_reducible refine LeO.bind ?_ (fun _ => ?_))
      | exact ih0 _ _ _ _
      | exact feature_Parse.mono _ _
      | exact LeO.none _
      | refine LeO.ite ?_ ?_
      | refine LeO.bind ?_ (fun _ => ?_)
set_option maxHeartbeats 8000000 in
set_option maxRecDepth 100000 in
theorem feature_parseAll.calls (k : Nat) (A0 : Option Addr) (c0 : Nat) (l0 : List ByteArray) (r1 : List (List ByteArray)) (r2 : Int) (w : World) (hr0 : Kd.C Kd.string w A0 l0.length l0) (hc0 : l0.length ≤ c0) (h : feature_parseAll.f k l0 = some (r1, r2)) :
    Calls Try.prog 35 #[.slice A0 l0.length c0] w fun e w' => ∃ v0_ : Value, e = .returned (.tuple #[v0_, .int .i64 r2]) ∧ Kd.S (Kd.slice 9 Kd.string) 23 w' w.heap.size (fun _ => True) v0_ r1 ∧ Below w.heap.size w w' := by
  have HR0 := Aside0.mk hr0
  have HC0 := Aside0.mk hc0
  clear hr0 hc0
  have HB := Aside0.mk (Below.refl w.heap.size w)
  have H : (feature_parseAll.l0 k ([] : List (List ByteArray)) l0 (l0.length : Int) 0) = some (r1, r2) := h
  clear h
  have H' := Aside0.mk H
  clear H
  go_enter Try.func35, Try.ntmps35
  go_wp2
  go_loopg [4, 11] k (fun kq v4 v11 w' => ∃ (x4_1 : List (List ByteArray)) (x11_1 : Int), v11 = .int .i64 x11_1 ∧ Aside0 (feature_parseAll.l0 kq x4_1 l0 (l0.length : Int) x11_1 = some (r1, r2)) ∧ Aside0 (kq ≤ k) ∧ Aside0 (Kd.S (Kd.slice 9 Kd.string) 23 w' w.heap.size (fun _ => True) v4 x4_1) ∧ Aside0 (Below w.heap.size w w'))
  case atStart => exact ⟨(([] : List (List ByteArray))), (0), (by first | rfl | (simp; done) | (simp [*]; done)), H', ⟨Nat.le_refl _⟩, ⟨by first | exact Kd.S_nil _ _ _ _ _ | exact Kd.N_nil _ _ _ _ _ | exact Kd.V_nil _ _ _ _ _ | exact Kd.Q_nil _ _ _ _ _ | exact Kd.R_nil _ _ _ _ _⟩, ⟨by repeat (first | (with_reducible first | exact HB.out | apply below_alloc | apply pw_below_drewN | apply below_drew1) | exact HB.out)⟩⟩
  case round =>
    clear H'
    obtain ⟨x4_1, x11_1, rfl, HA, HK1, HO_4, HB⟩ := hrel
    cases gk with
    | zero => exact absurd HA.out (by simp [feature_parseAll.l0])
    | succ k1 =>
      have H := HA.out
      clear HA
      simp only [feature_parseAll.l0] at H
      by_cases c2 : x11_1 < (l0.length : Int)
      · rw [if_pos c2] at H
        have c2b0 : decide (x11_1 < (l0.length : Int)) = true := decide_eq_true c2
        clear c2
        by_cases c3 : 0 ≤ x11_1
        · rw [if_pos c3] at H
          have c3b0 : decide (0 ≤ x11_1) = true := decide_eq_true c3
          clear c3
          by_cases c4 : x11_1 < (l0.length : Int)
          · rw [if_pos c4] at H
            have c4b0 : decide (x11_1 < (l0.length : Int)) = true := decide_eq_true c4
            clear c4
            replace H := Option.bind_eq_some_iff.mp H
            obtain ⟨⟨t190, t191⟩, A50, H⟩ := H
            replace H : (if t191 = 0 then (if x4_1.length < 5864062014805 then (feature_parseAll.l0 k1 (x4_1 ++ [t190]) l0 (l0.length : Int) (wrap64 (x11_1 + 1))) else (none)) else (some (([] : List (List ByteArray)), t191))) = some (r1, r2) := H
            have A5 := Aside0.mk A50
            clear A50
            by_cases c6 : t191 = 0
            · rw [if_pos c6] at H
              have c6b0 : (t191 == 0) = true := beq_iff_eq.mpr c6
              have c6b1 : (t191 != 0) = false := bne_eq_false_iff_eq.mpr c6
              clear c6
              by_cases c7 : x4_1.length < 5864062014805
              · rw [if_pos c7] at H
                have LMc7 := Aside0.mk c7
                clear c7
                obtain ⟨y194, hy194⟩ : ∃ y_ : List (List ByteArray), y_ = (x4_1 ++ [t190]) := ⟨_, rfl⟩
                replace H : (feature_parseAll.l0 k1 y194 l0 (l0.length : Int) (wrap64 (x11_1 + 1))) = some (r1, r2) := by first | (rw [hy194]; with_reducible exact H) | (have H2_ := (Option.bind_some _ _).symm.trans H; rw [hy194]; with_reducible exact H2_) | (have H2_ := (Option.bind_some _ _).symm.trans H; with_reducible exact H2_) | with_reducible exact H | (rw [hy194]; exact H) | exact H
                have Ny194 := Aside0.mk hy194
                clear hy194
                have H' := Aside0.mk H
                clear H
                have p189 : 0 ≤ (x11_1 : Int) := of_decide_eq_true (by first | (with_reducible assumption) | assumption)
                have q189 : x11_1 < (l0.length : Int) := of_decide_eq_true (by first | (with_reducible assumption) | assumption)
                obtain ⟨ad189, e189, hx189_0⟩ := Kd.at_string HR0.out x11_1 p189 q189
                cases e189
                replace hx189_0 := (HB.out.cell (World.block_lt_of_cell? w _ hx189_0)).trans hx189_0
                replace p189 := eq_true p189
                replace q189 := eq_true q189
                go_wp2_with (first | ((with_reducible refine gate_callee (f := 12) rfl ?_); refine goesL_ (some 17) rfl rfl Try.func12 (by kernel_rfl) rfl #[.string (rdOf ByteArray.empty l0 x11_1)] rfl (by (try simp only [List.map_toArray, List.map_cons, List.map_nil]); first | done | rfl | (simp only [List.length_drop, List.length_take]; rfl)) ?_; (with_reducible refine (feature_Parse.calls k1 (rdOf ByteArray.empty l0 x11_1) t190 t191 _ A5.out).mono ?_); rintro e w8 ⟨v192, rfl, ho0, hb⟩; refine ⟨_, rfl, ?_⟩; have n0_ := Aside0.mk (Kd.S_elder' (by (with_reducible repeat (first | apply Kd.S_alloc | apply Kd.S_drewN | apply Kd.S_drew)); exact HO_4.out) (Kd.R_base ho0) hb); have n1_ := Aside0.mk (Kd.R_lower ho0 (below_size (by repeat (first | (with_reducible first | exact HB.out | apply below_alloc | apply pw_below_drewN | apply below_drew1) | exact HB.out)))); have n2_ := Aside0.mk (below_step (by repeat (first | (with_reducible first | exact HB.out | apply below_alloc | apply pw_below_drewN | apply below_drew1) | exact HB.out)) hb); clear HO_4; clear HB; have HO_4 := n0_; have HO193 := n1_; have HB := n2_; clear n0_ n1_ n2_; (try clear hb); (try clear hb2); (try clear hk); (try clear hi); (try clear ho0); obtain ⟨Ao10, co10, eo10⟩ := Kd.R_slice HO193.out; subst eo10) | ((with_reducible refine gate_builtin (b := .append) (xs := #[.tmp 23, .tmp 25]) rfl ?_); at_builtin; refine Kd.S_append (Kd.slice 9 Kd.string) (w0 := w) w.heap.size rfl (.tmp 23) (.tmp 25) 45 23 (.slice none 0 0) 24 rfl Try.underlying45 info23 rfl (by decide) (by omega) u4 x4_1 t190 [.slice Ao10 t190.length co10] (fun _ => True) (fun k_ => some k_ = (.slice Ao10 t190.length co10 : Value).ownBlock) rfl rfl ?aP (fun k_ hk_ => ((Kd.R_mono (ok' := fun k_ => ((fun _ => True)) k_ ∧ some k_ ≠ (u4 : Value).ownBlock) (Kd.R_apart' (HO193.out) (Kd.S_typed HO_4.out) (by decide)) (fun k_ hk => ⟨trivial, hk.2⟩))).1 k_ hk_.symm) ?aF ?aO ?aB ?aS ?aL ?_; (case aP => exact Kd.M_row (Kd.R_mono (Kd.R_tight rfl (Kd.R_mono (ok' := fun k_ => ((fun _ => True)) k_ ∧ some k_ ≠ (u4 : Value).ownBlock) (Kd.R_apart' (HO193.out) (Kd.S_typed HO_4.out) (by decide)) (fun k_ hk => ⟨trivial, hk.2⟩))) (fun _ h_ => h_))); (case aB => exact (by repeat (first | (with_reducible first | exact HB.out | apply below_alloc | apply pw_below_drewN | apply below_drew1) | exact HB.out))); (case aF => exact (fun _ _ => trivial)); (case aO => exact (by (with_reducible repeat (first | apply Kd.S_alloc | apply Kd.S_drewN | apply Kd.S_drew)); exact Kd.S_mono HO_4.out (fun k_ hk => ⟨trivial, fun e_ => hk.2 e_⟩))); (case aS => exact (below_size (by repeat (first | (with_reducible first | exact HB.out | apply below_alloc | apply pw_below_drewN | apply below_drew1) | exact HB.out)))); (case aL => have := LMc7.out; omega); intro v195 w9 ho hb hg hat; rw [← Ny194.out] at ho; have n0_ := Aside0.mk (hb); have n1_ := Aside0.mk (ho); clear HB; clear HO_4; clear HO193; have HB := n0_; have HO196 := n1_; clear n0_ n1_; clear ho hb hg hat))
                go_roundg k1
                case measure => have := HK1.out; omega
                case rel => exact ⟨(y194), (wrap64 (x11_1 + 1)), (by first | rfl | (simp; done) | (simp [*]; done)), H', ⟨by have := HK1.out; omega⟩, ⟨by (with_reducible repeat (first | apply Kd.S_alloc | apply Kd.S_drewN | apply Kd.S_drew)); exact HO196.out⟩, ⟨by repeat (first | (with_reducible first | exact HB.out | apply below_alloc | apply pw_below_drewN | apply below_drew1) | exact HB.out)⟩⟩
              · rw [if_neg c7] at H
                exact absurd H (by simp)
            · rw [if_neg c6] at H
              have c6b0 : (t191 == 0) = false := beq_eq_false_iff_ne.mpr c6
              have c6b1 : (t191 != 0) = true := bne_iff_ne.mpr c6
              simp only [Option.some.injEq, Prod.mk.injEq] at H
              obtain ⟨rfl, rfl⟩ := H
              have p189 : 0 ≤ (x11_1 : Int) := of_decide_eq_true (by first | (with_reducible assumption) | assumption)
              have q189 : x11_1 < (l0.length : Int) := of_decide_eq_true (by first | (with_reducible assumption) | assumption)
              obtain ⟨ad189, e189, hx189_0⟩ := Kd.at_string HR0.out x11_1 p189 q189
              cases e189
              replace hx189_0 := (HB.out.cell (World.block_lt_of_cell? w _ hx189_0)).trans hx189_0
              replace p189 := eq_true p189
              replace q189 := eq_true q189
              go_wp2_with (first | ((with_reducible refine gate_callee (f := 12) rfl ?_); refine goesL_ (some 17) rfl rfl Try.func12 (by kernel_rfl) rfl #[.string (rdOf ByteArray.empty l0 x11_1)] rfl (by (try simp only [List.map_toArray, List.map_cons, List.map_nil]); first | done | rfl | (simp only [List.length_drop, List.length_take]; rfl)) ?_; (with_reducible refine (feature_Parse.calls k1 (rdOf ByteArray.empty l0 x11_1) t190 t191 _ A5.out).mono ?_); rintro e w11 ⟨v192, rfl, ho0, hb⟩; refine ⟨_, rfl, ?_⟩; have n0_ := Aside0.mk (Kd.S_elder' (by (with_reducible repeat (first | apply Kd.S_alloc | apply Kd.S_drewN | apply Kd.S_drew)); exact HO_4.out) (Kd.R_base ho0) hb); have n1_ := Aside0.mk (Kd.R_lower ho0 (below_size (by repeat (first | (with_reducible first | exact HB.out | apply below_alloc | apply pw_below_drewN | apply below_drew1) | exact HB.out)))); have n2_ := Aside0.mk (below_step (by repeat (first | (with_reducible first | exact HB.out | apply below_alloc | apply pw_below_drewN | apply below_drew1) | exact HB.out)) hb); clear HO_4; clear HB; have HO_4 := n0_; have HO193 := n1_; have HB := n2_; clear n0_ n1_ n2_; (try clear hb); (try clear hb2); (try clear hk); (try clear hi); (try clear ho0)))
              go_ret2
              exact ⟨_, by first | rfl | (simp [errW_none, errW_some] <;> rfl) | (simp [*, errW_none, errW_some] <;> rfl), by first | exact Kd.S_nil _ _ _ _ _ | exact Kd.N_nil _ _ _ _ _ | exact Kd.V_nil _ _ _ _ _ | exact Kd.Q_nil _ _ _ _ _ | exact Kd.R_nil _ _ _ _ _, by repeat (first | (with_reducible first | exact HB.out | apply below_alloc | apply pw_below_drewN | apply below_drew1) | exact HB.out)⟩
          · rw [if_neg c4] at H
            exact absurd H (by simp)
        · rw [if_neg c3] at H
          exact absurd H (by simp)
      · rw [if_neg c2] at H
        have c2b0 : decide (x11_1 < (l0.length : Int)) = false := decide_eq_false c2
        clear c2
        simp only [Option.some.injEq, Prod.mk.injEq] at H
        obtain ⟨rfl, rfl⟩ := H
        go_wp2
        go_ret2
        exact ⟨_, by first | rfl | (simp [errW_none, errW_some] <;> rfl) | (simp [*, errW_none, errW_some] <;> rfl), by (with_reducible repeat (first | apply Kd.S_alloc | apply Kd.S_drewN | apply Kd.S_drew)); exact HO_4.out, by repeat (first | (with_reducible first | exact HB.out | apply below_alloc | apply pw_below_drewN | apply below_drew1) | exact HB.out)⟩

end Go.Proofs.Ytcgglamgemgeiaa.Q
/- FFeatureUnion -/
namespace Go.Proofs.Ytcgglamgemgeiaa.Q
open Go.RowKit Go.Proofs.YtcgglamgemgeiaaW.PrintWords Go.Proofs.YtcgglamgemgeiaaW.PrintLast Go.Proofs.YtcgglamgemgeiaaW.PrintMore
attribute [local go_sem] max2_int min2_int max_two min_two max_three min_three max_four min_four   -- for this text's walks alone
set_option linter.unusedVariables false
set_option linter.unusedSimpArgs false

/-! ### feature_Union: function 20 -/
def feature_Union.f (k : Nat) (a0 : ByteArray) (a1 : ByteArray) : Option (ByteArray × Int) := (feature_parseAll.f k (([a0, a1] : List ByteArray))).bind fun bt200 => (if bt200.2 = 0 then (if 0 < (bt200.1.length : Int) then (if 1 < (bt200.1.length : Int) then (if (rd_L1 bt200.1 0).length + (rd_L1 bt200.1 1).length < 8796093022208 then ((feature_Format.f k ((rd_L1 bt200.1 0) ++ (rd_L1 bt200.1 1))).bind fun bt206 => (some (bt206.1, bt206.2))) else (none)) else (none)) else (none)) else (some ((⟨#[]⟩ : ByteArray), bt200.2)))
theorem feature_Union.mono : ∀ a0 a1 k, LeO (feature_Union.f k a0 a1) (feature_Union.f (k + 1) a0 a1) := by
  intro a0 a1 k
  unfold feature_Union.f
  repeat' first
      | (with_reducible exact feature_Format.mono _ _)
      | (with_reducible exact feature_parseAll.mono _ _)
      | (with_reducible exact LeO.refl _)
      | (with_reducible exact LeO.none _)
      | (with_reducible refine LeO.ite ?_ ?_)
      | (with_reducible refine LeO.bind ?_ (fun _ => ?_))
      | exact feature_Format.mono _ _
      | exact feature_parseAll.mono _ _
      | exact LeO.none _
      | refine LeO.ite ?_ ?_
      | refine LeO.bind ?_ (fun _ => ?_)
def feature_Union.T4 : Bool × List (List Nat × List Nat) := (true, [([], []), ([0], [0]), ([1], [1]), ([], []), ([3], [3]), ([4], [4]), ([2, 5], [2, 5]), ([6, 6], [6]), ([7], [7]), ([7], [7]), ([8, 7, 0, 1, 2, 3, 4, 5, 6, 7, 8, 9], [8]), ([9, 10, 0, 1, 2, 3, 4, 5, 6, 7, 8, 9, 10], [9])])
def feature_Union.B4 : List Nat := [0, 1, 3, 0, 8, 24, 63, 127, 255, 255, 1023, 2047]
theorem feature_Union.tab4 : rtab .any (opsOf Try.f20 4) = feature_Union.T4 := by kernel_rfl
theorem feature_Union.bits4 : waitsOk feature_Union.T4.2 feature_Union.B4 = true := by kernel_rfl
set_option maxHeartbeats 8000000 in
set_option maxRecDepth 100000 in
theorem feature_Union.calls (k : Nat) (a0 : ByteArray) (a1 : ByteArray) (r1 : ByteArray) (r2 : Int) (w : World) (h : feature_Union.f k a0 a1 = some (r1, r2)) :
    Calls Try.prog 20 #[.string a0, .string a1] w fun e w' => e = .returned (.tuple #[.string r1, .int .i64 r2]) ∧ Below w.heap.size w w' := by
  have HB := Aside0.mk (Below.refl w.heap.size w)
  have H : ((feature_parseAll.f k (([a0, a1] : List ByteArray))).bind fun bt200 => (if bt200.2 = 0 then (if 0 < (bt200.1.length : Int) then (if 1 < (bt200.1.length : Int) then (if (rd_L1 bt200.1 0).length + (rd_L1 bt200.1 1).length < 8796093022208 then ((feature_Format.f k ((rd_L1 bt200.1 0) ++ (rd_L1 bt200.1 1))).bind fun bt206 => (some (bt206.1, bt206.2))) else (none)) else (none)) else (none)) else (some ((⟨#[]⟩ : ByteArray), bt200.2)))) = some (r1, r2) := h
  clear h
  obtain ⟨y197, hy197⟩ : ∃ y_ : List ByteArray, y_ = (([a0, a1] : List ByteArray)) := ⟨_, rfl⟩
  replace H : ((feature_parseAll.f k y197).bind fun bt200 => (if bt200.2 = 0 then (if 0 < (bt200.1.length : Int) then (if 1 < (bt200.1.length : Int) then (if (rd_L1 bt200.1 0).length + (rd_L1 bt200.1 1).length < 8796093022208 then ((feature_Format.f k ((rd_L1 bt200.1 0) ++ (rd_L1 bt200.1 1))).bind fun bt206 => (some (bt206.1, bt206.2))) else (none)) else (none)) else (none)) else (some ((⟨#[]⟩ : ByteArray), bt200.2)))) = some (r1, r2) := by first | (rw [hy197]; with_reducible exact H) | (have H2_ := (Option.bind_some _ _).symm.trans H; rw [hy197]; with_reducible exact H2_) | (have H2_ := (Option.bind_some _ _).symm.trans H; with_reducible exact H2_) | with_reducible exact H | (rw [hy197]; exact H) | exact H
  have Ny197 := Aside0.mk hy197
  clear hy197
  replace H := Option.bind_eq_some_iff.mp H
  obtain ⟨⟨t200, t201⟩, A30, H⟩ := H
  replace H : (if t201 = 0 then (if 0 < (t200.length : Int) then (if 1 < (t200.length : Int) then (if (rd_L1 t200 0).length + (rd_L1 t200 1).length < 8796093022208 then ((feature_Format.f k ((rd_L1 t200 0) ++ (rd_L1 t200 1))).bind fun bt206 => (some (bt206.1, bt206.2))) else (none)) else (none)) else (none)) else (some ((⟨#[]⟩ : ByteArray), t201))) = some (r1, r2) := H
  have A3 := Aside0.mk A30
  clear A30
  by_cases c4 : t201 = 0
  · rw [if_pos c4] at H
    have c4b0 : (t201 == 0) = true := beq_iff_eq.mpr c4
    have c4b1 : (t201 != 0) = false := bne_eq_false_iff_eq.mpr c4
    clear c4
    by_cases c5 : 0 < (t200.length : Int)
    · rw [if_pos c5] at H
      have c5b0 : decide (0 < (t200.length : Int)) = true := decide_eq_true c5
      have c5b1 : decide (0 < t200.length) = true := decide_eq_true (by omega)
      clear c5
      by_cases c6 : 1 < (t200.length : Int)
      · rw [if_pos c6] at H
        have c6b0 : decide (1 < (t200.length : Int)) = true := decide_eq_true c6
        have c6b1 : decide (1 < t200.length) = true := decide_eq_true (by omega)
        clear c6
        by_cases cl7 : (rd_L1 t200 0).length + (rd_L1 t200 1).length < 8796093022208
        rotate_left
        · rw [if_neg cl7] at H
          exact absurd H (by simp)
        rw [if_pos cl7] at H
        replace H := Option.bind_eq_some_iff.mp H
        obtain ⟨⟨t206, t207⟩, A70, H⟩ := H
        replace H : (some (t206, t207)) = some (r1, r2) := H
        have A7 := Aside0.mk A70
        clear A70
        simp only [Option.some.injEq, Prod.mk.injEq] at H
        obtain ⟨rfl, rfl⟩ := H
        go_enter Try.func20, Try.ntmps20
        try go_wp2_with (first | ((with_reducible refine gate_dst (N := 11) rfl ?_); refine Kd.R_lit Kd.string _ 9 ?hg (N := 11) ?hd (xs := ([a0, a1] : List ByteArray)) (inner := [.string a0, .string a1]) (ok := fun _ => True) (okp := fun _ => True) ?hr ?hp (fun _ hk => hk) trivial (Below.refl _ _) (Nat.le_refl _) (by simp) ?_; (case hd => rfl); (case hg => rfl); (case hr => first | (go_simp; done) | (go_simp; rfl)); (case hp => exact (Reps.one (show Kd.M Kd.string _ _ _ a0 [.string a0] from rfl) (Reps.one (show Kd.M Kd.string _ _ _ a1 [.string a1] from rfl) (Reps.none _ _)))); intro v198 w8 ho9 hb hg_ hnew_; clear hg_ hnew_; (first | rw [← Ny197.out] at ho9 | (simp only [Int.reduceToNat] at ho9; rw [← Ny197.out] at ho9)); have n0_ := Aside0.mk (Kd.R_lower ho9 (below_size (by repeat (first | (with_reducible first | exact HB.out | apply below_alloc | apply pw_below_drewN | apply below_drew1) | exact HB.out)))); have n1_ := Aside0.mk (below_step (by repeat (first | (with_reducible first | exact HB.out | apply below_alloc | apply pw_below_drewN | apply below_drew1) | exact HB.out)) hb); clear HB; have HO199 := n0_; have HB := n1_; clear n0_ n1_; clear hb ho9; obtain ⟨Ao10, co10, eo10⟩ := Kd.R_slice HO199.out; subst eo10) | ((with_reducible refine gate_callee (f := 35) rfl ?_); refine goesL_ (some 12) rfl rfl Try.func35 (by kernel_rfl) rfl #[.slice Ao10 y197.length co10] rfl (by (try simp only [List.map_toArray, List.map_cons, List.map_nil]); first | done | rfl | (simp only [List.length_drop, List.length_take]; rfl)) ?_; (with_reducible refine (feature_parseAll.calls k _ _ y197 t200 t201 _ ?side1 ?side2 A3.out).mono ?_); (case side1 => repeat (first | exact (Kd.R_reads' HO199.out).2.2 | (with_reducible refine Kd.C_alloc ?_ _) | (with_reducible refine Kd.C_drewN ?_ _) | (with_reducible refine Kd.C_drew ?_))); (case side2 => exact (Kd.R_reads' HO199.out).2.1); rintro e w11 ⟨v202, rfl, ho0, hb⟩; refine ⟨_, rfl, ?_⟩; have n0_ := Aside0.mk (Kd.R_below (by (with_reducible repeat (first | apply Kd.R_alloc | apply Kd.R_drewN | apply Kd.R_drew)); exact HO199.out) hb); have n1_ := Aside0.mk (Kd.S_lower (Kd.S_new' ho0 (Kd.R_lt (by (with_reducible repeat (first | apply Kd.R_alloc | apply Kd.R_drewN | apply Kd.R_drew)); exact HO199.out))) (below_size (by repeat (first | (with_reducible first | exact HB.out | apply below_alloc | apply pw_below_drewN | apply below_drew1) | exact HB.out)))); have n2_ := Aside0.mk (below_step (by repeat (first | (with_reducible first | exact HB.out | apply below_alloc | apply pw_below_drewN | apply below_drew1) | exact HB.out)) hb); clear HO199; clear HB; have HO199 := n0_; have HO203 := n1_; have HB := n2_; clear n0_ n1_ n2_; (try clear hb); (try clear hb2); (try clear hk); (try clear hi); (try clear ho0)))
        have n0_ := Aside0.mk (Kd.R_drew HO199.out)
        have n1_ := Aside0.mk (Kd.S_drew HO203.out)
        have n2_ := Aside0.mk (below_drew1 HB.out)
        clear HO199
        clear HO203
        clear HB
        have HO199 := n0_
        have HO203 := n1_
        have HB := n2_
        clear n0_ n1_ n2_
        obtain ⟨Ao13, co13, eo13⟩ := Kd.S_slice HO203.out
        (first | subst eo13 | (injection eo13 with f1_ f2_ f3_; have f4_ := f1_.symm; have f5_ := f3_.symm; clear f1_ f2_ f3_; subst f4_; subst f5_))
        have p204 : 0 ≤ (0 : Int) := (by omega)
        have q204 : 0 < (t200.length : Int) := of_decide_eq_true (by first | (with_reducible assumption) | assumption)
        obtain ⟨ad204, A204_0, c204_0, e204, hx204_0, hl204_0, hi204_0⟩ := at_L1 (Kd.S_reads' HO203.out).2.2 0 p204 q204
        cases e204
        obtain ⟨ce204, hce204, hMe204, hcc204⟩ := Kd.S_get HO203.out [] 0 p204 (by first | exact q204 | exact of_decide_eq_true (by first | (with_reducible assumption) | assumption) | (have e_ := (Kd.S_reads' HO203.out).1; omega))
        obtain ⟨ve204_0, rfl, ge204_0⟩ := hMe204
        have hv204_0 := hcc204 0 _ rfl
        rw [Nat.add_zero, show ((Kd.slice 9 Kd.string)).sz = 1 from rfl, Nat.mul_one] at hv204_0
        replace hv204_0 := Option.some.inj (hv204_0.symm.trans hx204_0)
        rw [hv204_0] at ge204_0
        have HL204_0 := Aside0.mk (show Kd.R Kd.string 9 _ _ _ _ (rd_L1 t200 0) from ge204_0)
        clear hv204_0 ge204_0
        clear hcc204 hce204
        have qi204 : (0 < t200.length) = True := eq_true (by omega)
        (try rw [show ((0 : Int)).toNat = 0 from rfl] at hx204_0)
        (try rw [Addr.add_zero'] at hx204_0)
        have HR204_0 := Aside0.mk hi204_0
        have HC204_0 := Aside0.mk hl204_0
        clear hi204_0 hl204_0
        replace p204 := eq_true p204
        replace q204 := eq_true q204
        have p205 : 0 ≤ (1 : Int) := (by omega)
        have q205 : 1 < (t200.length : Int) := of_decide_eq_true (by first | (with_reducible assumption) | assumption)
        obtain ⟨ad205, A205_0, c205_0, e205, hx205_0, hl205_0, hi205_0⟩ := at_L1 (Kd.S_reads' HO203.out).2.2 1 p205 q205
        obtain rfl : ad204 = ad205 := (by injection e205)
        obtain ⟨ce205, hce205, hMe205, hcc205⟩ := Kd.S_get HO203.out [] 1 p205 (by first | exact q205 | exact of_decide_eq_true (by first | (with_reducible assumption) | assumption) | (have e_ := (Kd.S_reads' HO203.out).1; omega))
        obtain ⟨ve205_0, rfl, ge205_0⟩ := hMe205
        have hv205_0 := hcc205 0 _ rfl
        rw [Nat.add_zero, show ((Kd.slice 9 Kd.string)).sz = 1 from rfl, Nat.mul_one] at hv205_0
        replace hv205_0 := Option.some.inj (hv205_0.symm.trans hx205_0)
        rw [hv205_0] at ge205_0
        have HL205_0 := Aside0.mk (show Kd.R Kd.string 9 _ _ _ _ (rd_L1 t200 1) from ge205_0)
        clear hv205_0 ge205_0
        clear hcc205 hce205
        (try simp only [show (1 : Int).toNat = 1 from rfl, Nat.reduceMul, Nat.reduceEqDiff, Go.Addr.add, ↓reduceIte] at hx205_0)
        have qi205 : (1 < t200.length) = True := eq_true (by omega)
        (try rw [show ((1 : Int)).toNat = 1 from rfl] at hx205_0)
        have HR205_0 := Aside0.mk hi205_0
        have HC205_0 := Aside0.mk hl205_0
        clear hi205_0 hl205_0
        replace p205 := eq_true p205
        replace q205 := eq_true q205
        refine start_ (n := 12) (S := fun w' => w'.cell? ad204 = some (.slice A204_0 (rd_L1 t200 0).length c204_0) ∧ w'.cell? ⟨ad204.block, ad204.off + 1, none⟩ = some (.slice A205_0 (rd_L1 t200 1).length c205_0)) (ds := [6, 7]) #[false, false, false, false, false, false, false, false, false, false, false, false] (by kernel_rfl) rfl rfl ⟨hx204_0, hx205_0⟩ (fun hHeld => ?_); refine with_tabW feature_Union.tab4 feature_Union.bits4 (fun HT_ HW_ => ?_)
        generalize w11.drew = w12 at HO199 HO203 HB HL204_0 HL205_0 HR204_0 HR205_0 hx204_0 hx205_0 hHeld ⊢
        refine pure_ (i := 0) (N := some 18) (v := ?_) (a' := ?_) #[true, false, false, false, false, false, false, false, false, false, false, false] rfl rfl (any_of HT_.out (by kernel_rfl)) (fun _ _ _ h => h) (Or.inl ⟨by rfl, ?_⟩) ?_ ?_
        rotate_left
        · intro w'
          go_simp
          with_reducible rfl
        rotate_left
        · simp only [Act.put, List.setIfInBounds_toArray, List.set_cons_zero, List.set_cons_succ, i64_w, i32_w]
          rfl
        refine pure_ (i := 1) (N := some 19) (v := ?_) (a' := ?_) #[true, true, false, false, false, false, false, false, false, false, false, false] rfl rfl (any_of HT_.out (by kernel_rfl)) (fun _ _ _ h => h) (Or.inl ⟨by rfl, ?_⟩) ?_ ?_
        rotate_left
        · intro w'
          go_simp
          with_reducible rfl
        rotate_left
        · simp only [Act.put, List.setIfInBounds_toArray, List.set_cons_zero, List.set_cons_succ, i64_w, i32_w]
          rfl
        refine pure_ (i := 3) (N := some 21) (v := ?_) (a' := ?_) #[true, true, false, true, false, false, false, false, false, false, false, false] rfl rfl (any_of HT_.out (by kernel_rfl)) (fun _ _ _ h => h) (Or.inl ⟨by rfl, ?_⟩) ?_ ?_
        rotate_left
        · intro w'
          go_simp
          with_reducible rfl
        rotate_left
        · simp only [Act.put, List.setIfInBounds_toArray, List.set_cons_zero, List.set_cons_succ, i64_w, i32_w]
          rfl
        refine pure_ (i := 4) (N := some 22) (v := ?_) (a' := ?_) #[true, true, false, true, true, false, false, false, false, false, false, false] rfl rfl (any_of HT_.out (by kernel_rfl)) (fun _ _ _ h => h) (Or.inl ⟨by rfl, ?_⟩) ?_ ?_
        rotate_left
        · intro w'
          go_simp
          with_reducible rfl
        rotate_left
        · simp only [Act.put, List.setIfInBounds_toArray, List.set_cons_zero, List.set_cons_succ, i64_w, i32_w]
          rfl
        refine take_ (i := 2) (N := some 20) (v := ?_) (a' := ?_) #[true, true, true, true, true, false, false, false, false, false, false, false] rfl rfl (take_ofW HT_.out HW_.out (by kernel_rfl)) (fun _ _ _ h => h) (Or.inl ⟨by rfl, ?_⟩) hHeld ?_ ?_
        rotate_left
        · rintro w' ⟨s0, s1⟩
          go_simp
          with_reducible rfl
        rotate_left
        · simp only [Act.put, List.setIfInBounds_toArray, List.set_cons_zero, List.set_cons_succ, i64_w, i32_w]
          rfl
        refine take_ (i := 5) (N := some 23) (v := ?_) (a' := ?_) #[true, true, true, true, true, true, false, false, false, false, false, false] rfl rfl (take_ofW HT_.out HW_.out (by kernel_rfl)) (fun _ _ _ h => h) (Or.inl ⟨by rfl, ?_⟩) hHeld ?_ ?_
        rotate_left
        · rintro w' ⟨s0, s1⟩
          go_simp
          with_reducible rfl
        rotate_left
        · simp only [Act.put, List.setIfInBounds_toArray, List.set_cons_zero, List.set_cons_succ, i64_w, i32_w]
          rfl
        refine last_ (i := 6) (N := some 24) #[true, true, true, true, true, true, true, false, false, false, false, false] rfl rfl (one_of HT_.out (by kernel_rfl)) (by decide) (fun K hK => ?_)
        refine Kd.R_append_rows_step Kd.string (w0 := w) w.heap.size (by rfl) (.tmp 20) (.tmp 23) 23 9 (.string ⟨#[]⟩) 16 rfl Try.underlying23 info9 rfl (by decide) (by omega) (.slice A204_0 (rd_L1 t200 0).length c204_0) (rd_L1 t200 0) (rd_L1 t200 1) A205_0 (rd_L1 t200 1).length c205_0 (fun _ => True) (fun _ => False) rfl rfl ?aO ?aR (fun _ _ h => h) (fun _ h => h.elim) (fun _ _ => trivial) ?aB ?aS ?aL ?_
        case aO => exact Kd.R_mono HL204_0.out (fun _ _ => trivial)
        case aR => exact HR205_0.out
        case aB => exact (by repeat (first | (with_reducible first | exact HB.out | apply below_alloc | apply pw_below_drewN | apply below_drew1) | exact HB.out))
        case aS => exact below_size (by repeat (first | (with_reducible first | exact HB.out | apply below_alloc | apply pw_below_drewN | apply below_drew1) | exact HB.out))
        case aL => omega
        intro v1_ w13 happ hb _ _
        obtain ⟨Ax_, cx_, ex_⟩ := Kd.R_slice happ
        subst ex_
        have HX_ := Aside0.mk happ
        clear happ HO199 HO203 HL204_0 HL205_0 HR204_0 HR205_0 HB
        have HB := Aside0.mk hb
        clear hb
        refine hK.out _ _ ?_
        clear hK K
        refine norm_ (a' := ?_) ?_ ?_
        rotate_left
        · show Act.put _ (some 24) _ = _
          simp only [Act.put, List.setIfInBounds_toArray, List.set_cons_zero, List.set_cons_succ, i64_w, i32_w]
          rfl
        refine last_ (i := 7) (N := some 25) #[true, true, true, true, true, true, true, true, false, false, false, false] rfl rfl (one_of HT_.out (by kernel_rfl)) (by decide) (fun K hK => ?_)
        refine goes_ Try.func16 (by kernel_rfl) rfl #[.slice Ax_ ((rd_L1 t200 0) ++ (rd_L1 t200 1)).length cx_] (by rfl) rfl rfl (by (try simp only [List.map_toArray, List.map_cons, List.map_nil]); first | done | rfl) ?_
        with_reducible refine (feature_Format.calls k _ _ ((rd_L1 t200 0) ++ (rd_L1 t200 1)) t206 t207 _ ?side1 ?side2 A7.out).mono ?_
        (case side1 => exact (Kd.R_reads' HX_.out).2.2)
        (case side2 => exact (Kd.R_reads' HX_.out).2.1)
        rintro e w14 ⟨rfl, hb⟩
        refine ⟨_, rfl, ?_⟩
        have n6_ := Aside0.mk (below_step HB.out hb)
        clear HB
        have HB := n6_
        clear n6_ hb
        refine hK.out _ _ ?_
        clear hK K
        refine norm_ (a' := ?_) ?_ ?_
        rotate_left
        · show Act.put _ (some 25) _ = _
          simp only [Act.put, List.setIfInBounds_toArray, List.set_cons_zero, List.set_cons_succ, i64_w, i32_w]
          rfl
        refine pure_ (i := 8) (N := some 26) (v := ?_) (a' := ?_) #[true, true, true, true, true, true, true, true, true, false, false, false] rfl rfl (any_of HT_.out (by kernel_rfl)) (fun _ _ _ h => h) (Or.inl ⟨by rfl, ?_⟩) ?_ ?_
        rotate_left
        · intro w'
          go_simp
          with_reducible rfl
        rotate_left
        · simp only [Act.put, List.setIfInBounds_toArray, List.set_cons_zero, List.set_cons_succ, i64_w, i32_w]
          rfl
        refine pure_ (i := 9) (N := some 27) (v := ?_) (a' := ?_) #[true, true, true, true, true, true, true, true, true, true, false, false] rfl rfl (any_of HT_.out (by kernel_rfl)) (fun _ _ _ h => h) (Or.inl ⟨by rfl, ?_⟩) ?_ ?_
        rotate_left
        · intro w'
          go_simp
          with_reducible rfl
        rotate_left
        · simp only [Act.put, List.setIfInBounds_toArray, List.set_cons_zero, List.set_cons_succ, i64_w, i32_w]
          rfl
        refine pure_ (i := 10) (N := some 4) (v := ?_) (a' := ?_) #[true, true, true, true, true, true, true, true, true, true, true, false] rfl rfl (any_of HT_.out (by kernel_rfl)) (fun _ _ _ h => h) (Or.inl ⟨by rfl, ?_⟩) ?_ ?_
        rotate_left
        · intro w'
          go_simp
          with_reducible rfl
        rotate_left
        · simp only [Act.put, List.setIfInBounds_toArray, List.set_cons_zero, List.set_cons_succ, i64_w, i32_w]
          rfl
        refine pure_ (i := 11) (N := some 5) (v := ?_) (a' := ?_) #[true, true, true, true, true, true, true, true, true, true, true, true] rfl rfl (any_of HT_.out (by kernel_rfl)) (fun _ _ _ h => h) (Or.inl ⟨by rfl, ?_⟩) ?_ ?_
        rotate_left
        · intro w'
          go_simp
          with_reducible rfl
        rotate_left
        · simp only [Act.put, List.setIfInBounds_toArray, List.set_cons_zero, List.set_cons_succ, i64_w, i32_w]
          rfl
        refine done_ (done_of HT_.out (by kernel_rfl)) ?_
        try go_wp2
        go_ret2
        exact ⟨by first | rfl | (simp [errW_none, errW_some] <;> rfl) | (simp [*, errW_none, errW_some] <;> rfl), by repeat (first | (with_reducible first | exact HB.out | apply below_alloc | apply pw_below_drewN | apply below_drew1) | exact HB.out)⟩
      · rw [if_neg c6] at H
        exact absurd H (by simp)
    · rw [if_neg c5] at H
      exact absurd H (by simp)
  · rw [if_neg c4] at H
    have c4b0 : (t201 == 0) = false := beq_eq_false_iff_ne.mpr c4
    have c4b1 : (t201 != 0) = true := bne_iff_ne.mpr c4
    simp only [Option.some.injEq, Prod.mk.injEq] at H
    obtain ⟨rfl, rfl⟩ := H
    go_enter Try.func20, Try.ntmps20
    go_wp2_with (first | ((with_reducible refine gate_dst (N := 11) rfl ?_); refine Kd.R_lit Kd.string _ 9 ?hg (N := 11) ?hd (xs := ([a0, a1] : List ByteArray)) (inner := [.string a0, .string a1]) (ok := fun _ => True) (okp := fun _ => True) ?hr ?hp (fun _ hk => hk) trivial (Below.refl _ _) (Nat.le_refl _) (by simp) ?_; (case hd => rfl); (case hg => rfl); (case hr => first | (go_simp; done) | (go_simp; rfl)); (case hp => exact (Reps.one (show Kd.M Kd.string _ _ _ a0 [.string a0] from rfl) (Reps.one (show Kd.M Kd.string _ _ _ a1 [.string a1] from rfl) (Reps.none _ _)))); intro v198 w15 ho16 hb hg_ hnew_; clear hg_ hnew_; (first | rw [← Ny197.out] at ho16 | (simp only [Int.reduceToNat] at ho16; rw [← Ny197.out] at ho16)); have n0_ := Aside0.mk (Kd.R_lower ho16 (below_size (by repeat (first | (with_reducible first | exact HB.out | apply below_alloc | apply pw_below_drewN | apply below_drew1) | exact HB.out)))); have n1_ := Aside0.mk (below_step (by repeat (first | (with_reducible first | exact HB.out | apply below_alloc | apply pw_below_drewN | apply below_drew1) | exact HB.out)) hb); clear HB; have HO199 := n0_; have HB := n1_; clear n0_ n1_; clear hb ho16; obtain ⟨Ao17, co17, eo17⟩ := Kd.R_slice HO199.out; subst eo17) | ((with_reducible refine gate_callee (f := 35) rfl ?_); refine goesL_ (some 12) rfl rfl Try.func35 (by kernel_rfl) rfl #[.slice Ao17 y197.length co17] rfl (by (try simp only [List.map_toArray, List.map_cons, List.map_nil]); first | done | rfl | (simp only [List.length_drop, List.length_take]; rfl)) ?_; (with_reducible refine (feature_parseAll.calls k _ _ y197 t200 t201 _ ?side1 ?side2 A3.out).mono ?_); (case side1 => repeat (first | exact (Kd.R_reads' HO199.out).2.2 | (with_reducible refine Kd.C_alloc ?_ _) | (with_reducible refine Kd.C_drewN ?_ _) | (with_reducible refine Kd.C_drew ?_))); (case side2 => exact (Kd.R_reads' HO199.out).2.1); rintro e w18 ⟨v202, rfl, ho0, hb⟩; refine ⟨_, rfl, ?_⟩; have n0_ := Aside0.mk (Kd.R_below (by (with_reducible repeat (first | apply Kd.R_alloc | apply Kd.R_drewN | apply Kd.R_drew)); exact HO199.out) hb); have n1_ := Aside0.mk (Kd.S_lower (Kd.S_new' ho0 (Kd.R_lt (by (with_reducible repeat (first | apply Kd.R_alloc | apply Kd.R_drewN | apply Kd.R_drew)); exact HO199.out))) (below_size (by repeat (first | (with_reducible first | exact HB.out | apply below_alloc | apply pw_below_drewN | apply below_drew1) | exact HB.out)))); have n2_ := Aside0.mk (below_step (by repeat (first | (with_reducible first | exact HB.out | apply below_alloc | apply pw_below_drewN | apply below_drew1) | exact HB.out)) hb); clear HO199; clear HB; have HO199 := n0_; have HO203 := n1_; have HB := n2_; clear n0_ n1_ n2_; (try clear hb); (try clear hb2); (try clear hk); (try clear hi); (try clear ho0)))
    go_ret2
    exact ⟨by first | rfl | (simp [errW_none, errW_some] <;> rfl) | (simp [*, errW_none, errW_some] <;> rfl), by repeat (first | (with_reducible first | exact HB.out | apply below_alloc | apply pw_below_drewN | apply below_drew1) | exact HB.out)⟩

end Go.Proofs.Ytcgglamgemgeiaa.Q
/- FCorporalaw05Awake -/
namespace Go.Proofs.Ytcgglamgemgeiaa.Q
open Go.RowKit Go.Proofs.YtcgglamgemgeiaaW.PrintWords Go.Proofs.YtcgglamgemgeiaaW.PrintLast Go.Proofs.YtcgglamgemgeiaaW.PrintMore
attribute [local go_sem] max2_int min2_int max_two min_two max_three min_three max_four min_four   -- for this text's walks alone
set_option linter.unusedVariables false
set_option linter.unusedSimpArgs false

/-! ### corporalaw05_awake: function 15 -/
def corporalaw05_awake.f (k : Nat)  : Option (Bool) := (feature_Format.f k (([(⟨#[98]⟩ : ByteArray), (⟨#[97]⟩ : ByteArray), (⟨#[98]⟩ : ByteArray)] : List ByteArray))).bind fun bt211 => ((feature_Parse.f k (⟨#[124]⟩ : ByteArray)).bind fun bt213 => ((feature_Union.f k (⟨#[124, 97, 124]⟩ : ByteArray) (⟨#[124, 98, 124]⟩ : ByteArray)).bind fun bt217 => (if bt211.1.toList = ([124, 97, 124, 98, 124] : List UInt8) then (if bt211.2 = 0 then (if (bt213.1.length : Int) = 0 then (if bt213.2 = 0 then (if bt217.1.toList = ([124, 97, 124, 98, 124] : List UInt8) then (some (bt217.2 == 0)) else (some false)) else (some false)) else (some false)) else (some false)) else (some false))))
theorem corporalaw05_awake.mono : ∀ k, LeO (corporalaw05_awake.f k ) (corporalaw05_awake.f (k + 1) ) := by
  intro  k
  unfold corporalaw05_awake.f
  repeat' first
      | (with_reducible exact feature_Format.mono _ _)
      | (with_reducible exact feature_Parse.mono _ _)
      | (with_reducible exact feature_Union.mono _ _ _)
      | (with_reducible exact LeO.refl _)
      | (with_reducible exact LeO.none _)
      | (with_reducible refine LeO.ite ?_ ?_)
      | (with_reducible refine LeO.bind ?_ (fun _ => ?_))
      | exact feature_Format.mono _ _
      | exact feature_Parse.mono _ _
      | exact feature_Union.mono _ _ _
      | exact LeO.none _
      | refine LeO.ite ?_ ?_
      | refine LeO.bind ?_ (fun _ => ?_)
set_option maxHeartbeats 8000000 in
set_option maxRecDepth 100000 in
theorem corporalaw05_awake.calls (k : Nat)  (r : Bool) (w : World) (h : corporalaw05_awake.f k  = some r) :
    Calls Try.prog 15 #[] w fun e w' => e = .returned (.bool r) ∧ Below w.heap.size w w' := by
  have HB := Aside0.mk (Below.refl w.heap.size w)
  have H : ((feature_Format.f k (([(⟨#[98]⟩ : ByteArray), (⟨#[97]⟩ : ByteArray), (⟨#[98]⟩ : ByteArray)] : List ByteArray))).bind fun bt211 => ((feature_Parse.f k (⟨#[124]⟩ : ByteArray)).bind fun bt213 => ((feature_Union.f k (⟨#[124, 97, 124]⟩ : ByteArray) (⟨#[124, 98, 124]⟩ : ByteArray)).bind fun bt217 => (if bt211.1.toList = ([124, 97, 124, 98, 124] : List UInt8) then (if bt211.2 = 0 then (if (bt213.1.length : Int) = 0 then (if bt213.2 = 0 then (if bt217.1.toList = ([124, 97, 124, 98, 124] : List UInt8) then (some (bt217.2 == 0)) else (some false)) else (some false)) else (some false)) else (some false)) else (some false))))) = some r := h
  clear h
  obtain ⟨y208, hy208⟩ : ∃ y_ : List ByteArray, y_ = (([(⟨#[98]⟩ : ByteArray), (⟨#[97]⟩ : ByteArray), (⟨#[98]⟩ : ByteArray)] : List ByteArray)) := ⟨_, rfl⟩
  replace H : ((feature_Format.f k y208).bind fun bt211 => ((feature_Parse.f k (⟨#[124]⟩ : ByteArray)).bind fun bt213 => ((feature_Union.f k (⟨#[124, 97, 124]⟩ : ByteArray) (⟨#[124, 98, 124]⟩ : ByteArray)).bind fun bt217 => (if bt211.1.toList = ([124, 97, 124, 98, 124] : List UInt8) then (if bt211.2 = 0 then (if (bt213.1.length : Int) = 0 then (if bt213.2 = 0 then (if bt217.1.toList = ([124, 97, 124, 98, 124] : List UInt8) then (some (bt217.2 == 0)) else (some false)) else (some false)) else (some false)) else (some false)) else (some false))))) = some r := by first | (rw [hy208]; with_reducible exact H) | (have H2_ := (Option.bind_some _ _).symm.trans H; rw [hy208]; with_reducible exact H2_) | (have H2_ := (Option.bind_some _ _).symm.trans H; with_reducible exact H2_) | with_reducible exact H | (rw [hy208]; exact H) | exact H
  have Ny208 := Aside0.mk hy208
  clear hy208
  replace H := Option.bind_eq_some_iff.mp H
  obtain ⟨⟨t211, t212⟩, A10, H⟩ := H
  replace H : ((feature_Parse.f k (⟨#[124]⟩ : ByteArray)).bind fun bt213 => ((feature_Union.f k (⟨#[124, 97, 124]⟩ : ByteArray) (⟨#[124, 98, 124]⟩ : ByteArray)).bind fun bt217 => (if t211.toList = ([124, 97, 124, 98, 124] : List UInt8) then (if t212 = 0 then (if (bt213.1.length : Int) = 0 then (if bt213.2 = 0 then (if bt217.1.toList = ([124, 97, 124, 98, 124] : List UInt8) then (some (bt217.2 == 0)) else (some false)) else (some false)) else (some false)) else (some false)) else (some false)))) = some r := H
  have A1 := Aside0.mk A10
  clear A10
  replace H := Option.bind_eq_some_iff.mp H
  obtain ⟨⟨t213, t214⟩, A20, H⟩ := H
  replace H : ((feature_Union.f k (⟨#[124, 97, 124]⟩ : ByteArray) (⟨#[124, 98, 124]⟩ : ByteArray)).bind fun bt217 => (if t211.toList = ([124, 97, 124, 98, 124] : List UInt8) then (if t212 = 0 then (if (t213.length : Int) = 0 then (if t214 = 0 then (if bt217.1.toList = ([124, 97, 124, 98, 124] : List UInt8) then (some (bt217.2 == 0)) else (some false)) else (some false)) else (some false)) else (some false)) else (some false))) = some r := H
  have A2 := Aside0.mk A20
  clear A20
  replace H := Option.bind_eq_some_iff.mp H
  obtain ⟨⟨t217, t218⟩, A30, H⟩ := H
  replace H : (if t211.toList = ([124, 97, 124, 98, 124] : List UInt8) then (if t212 = 0 then (if (t213.length : Int) = 0 then (if t214 = 0 then (if t217.toList = ([124, 97, 124, 98, 124] : List UInt8) then (some (t218 == 0)) else (some false)) else (some false)) else (some false)) else (some false)) else (some false)) = some r := H
  have A3 := Aside0.mk A30
  clear A30
  by_cases c4 : t211.toList = ([124, 97, 124, 98, 124] : List UInt8)
  · rw [if_pos c4] at H
    have c4b0 : (t211.toList == ([124, 97, 124, 98, 124] : List UInt8)) = true := beq_iff_eq.mpr c4
    have c4b1 : (t211.toList != ([124, 97, 124, 98, 124] : List UInt8)) = false := bne_eq_false_iff_eq.mpr c4
    clear c4
    by_cases c5 : t212 = 0
    · rw [if_pos c5] at H
      have c5b0 : (t212 == 0) = true := beq_iff_eq.mpr c5
      have c5b1 : (t212 != 0) = false := bne_eq_false_iff_eq.mpr c5
      clear c5
      by_cases c6 : (t213.length : Int) = 0
      · rw [if_pos c6] at H
        have c6b0 : ((t213.length : Int) == 0) = true := beq_iff_eq.mpr c6
        have c6b1 : ((t213.length : Int) != 0) = false := bne_eq_false_iff_eq.mpr c6
        clear c6
        by_cases c7 : t214 = 0
        · rw [if_pos c7] at H
          have c7b0 : (t214 == 0) = true := beq_iff_eq.mpr c7
          have c7b1 : (t214 != 0) = false := bne_eq_false_iff_eq.mpr c7
          clear c7
          by_cases c8 : t217.toList = ([124, 97, 124, 98, 124] : List UInt8)
          · rw [if_pos c8] at H
            have c8b0 : (t217.toList == ([124, 97, 124, 98, 124] : List UInt8)) = true := beq_iff_eq.mpr c8
            have c8b1 : (t217.toList != ([124, 97, 124, 98, 124] : List UInt8)) = false := bne_eq_false_iff_eq.mpr c8
            clear c8
            obtain rfl := Option.some.inj H
            go_enter Try.func15, Try.ntmps15
            go_wp2_with (first | ((with_reducible refine gate_dst (N := 8) rfl ?_); (try (refine gate_guard (by rfl) ?_; dsimp only)); refine Kd.R_lit Kd.string _ 9 ?hg (N := 8) ?hd (xs := ([(⟨#[98]⟩ : ByteArray), (⟨#[97]⟩ : ByteArray), (⟨#[98]⟩ : ByteArray)] : List ByteArray)) (inner := [.string (⟨#[98]⟩ : ByteArray), .string (⟨#[97]⟩ : ByteArray), .string (⟨#[98]⟩ : ByteArray)]) (ok := fun _ => True) (okp := fun _ => True) ?hr ?hp (fun _ hk => hk) trivial (Below.refl _ _) (Nat.le_refl _) (by simp) ?_; (case hd => rfl); (case hg => rfl); (case hr => first | (go_simp; done) | (go_simp; rfl)); (case hp => exact (Reps.one (show Kd.M Kd.string _ _ _ (⟨#[98]⟩ : ByteArray) [.string (⟨#[98]⟩ : ByteArray)] from rfl) (Reps.one (show Kd.M Kd.string _ _ _ (⟨#[97]⟩ : ByteArray) [.string (⟨#[97]⟩ : ByteArray)] from rfl) (Reps.one (show Kd.M Kd.string _ _ _ (⟨#[98]⟩ : ByteArray) [.string (⟨#[98]⟩ : ByteArray)] from rfl) (Reps.none _ _))))); intro v209 w9 ho10 hb hg_ hnew_; clear hg_ hnew_; (first | rw [← Ny208.out] at ho10 | (simp only [Int.reduceToNat] at ho10; rw [← Ny208.out] at ho10)); have n0_ := Aside0.mk (Kd.R_lower ho10 (below_size (by repeat (first | (with_reducible first | exact HB.out | apply below_alloc | apply pw_below_drewN | apply below_drew1) | exact HB.out)))); have n1_ := Aside0.mk (below_step (by repeat (first | (with_reducible first | exact HB.out | apply below_alloc | apply pw_below_drewN | apply below_drew1) | exact HB.out)) hb); clear HB; have HO210 := n0_; have HB := n1_; clear n0_ n1_; clear hb ho10; obtain ⟨Ao11, co11, eo11⟩ := Kd.R_slice HO210.out; subst eo11) | ((with_reducible refine gate_callee (f := 16) rfl ?_); refine goesL_ (some 9) rfl rfl Try.func16 (by kernel_rfl) rfl #[.slice Ao11 y208.length co11] rfl (by (try simp only [List.map_toArray, List.map_cons, List.map_nil]); first | done | rfl | (simp only [List.length_drop, List.length_take]; rfl)) ?_; (with_reducible refine (feature_Format.calls k _ _ y208 t211 t212 _ ?side1 ?side2 A1.out).mono ?_); (case side1 => repeat (first | exact (Kd.R_reads' HO210.out).2.2 | (with_reducible refine Kd.C_alloc ?_ _) | (with_reducible refine Kd.C_drewN ?_ _) | (with_reducible refine Kd.C_drew ?_))); (case side2 => exact (Kd.R_reads' HO210.out).2.1); rintro e w12 ⟨rfl, hb⟩; refine ⟨_, rfl, ?_⟩; have n0_ := Aside0.mk (Kd.R_below (by (with_reducible repeat (first | apply Kd.R_alloc | apply Kd.R_drewN | apply Kd.R_drew)); exact HO210.out) hb); have n1_ := Aside0.mk (below_step (by repeat (first | (with_reducible first | exact HB.out | apply below_alloc | apply pw_below_drewN | apply below_drew1) | exact HB.out)) hb); clear HO210; clear HB; have HO210 := n0_; have HB := n1_; clear n0_ n1_; (try clear hb); (try clear hb2); (try clear hk); (try clear hi)) | ((with_reducible refine gate_callee (f := 12) rfl ?_); refine goesL_ (some 13) rfl rfl Try.func12 (by kernel_rfl) rfl #[.string (⟨#[124]⟩ : ByteArray)] rfl (by (try simp only [List.map_toArray, List.map_cons, List.map_nil]); first | done | rfl | (simp only [List.length_drop, List.length_take]; rfl)) ?_; (with_reducible refine (feature_Parse.calls k (⟨#[124]⟩ : ByteArray) t213 t214 _ A2.out).mono ?_); rintro e w13 ⟨v215, rfl, ho0, hb⟩; refine ⟨_, rfl, ?_⟩; have n0_ := Aside0.mk (Kd.R_elder' (by (with_reducible repeat (first | apply Kd.R_alloc | apply Kd.R_drewN | apply Kd.R_drew)); exact HO210.out) (Kd.R_base ho0) hb); have n1_ := Aside0.mk (Kd.R_lower (Kd.R_new' ho0 (Kd.R_lt (by (with_reducible repeat (first | apply Kd.R_alloc | apply Kd.R_drewN | apply Kd.R_drew)); exact HO210.out))) (below_size (by repeat (first | (with_reducible first | exact HB.out | apply below_alloc | apply pw_below_drewN | apply below_drew1) | exact HB.out)))); have n2_ := Aside0.mk (below_step (by repeat (first | (with_reducible first | exact HB.out | apply below_alloc | apply pw_below_drewN | apply below_drew1) | exact HB.out)) hb); clear HO210; clear HB; have HO210 := n0_; have HO216 := n1_; have HB := n2_; clear n0_ n1_ n2_; (try clear hb); (try clear hb2); (try clear hk); (try clear hi); (try clear ho0)) | ((with_reducible refine gate_callee (f := 20) rfl ?_); refine goesL_ (some 17) rfl rfl Try.func20 (by kernel_rfl) rfl #[.string (⟨#[124, 97, 124]⟩ : ByteArray), .string (⟨#[124, 98, 124]⟩ : ByteArray)] rfl (by (try simp only [List.map_toArray, List.map_cons, List.map_nil]); first | done | rfl | (simp only [List.length_drop, List.length_take]; rfl)) ?_; (with_reducible refine (feature_Union.calls k (⟨#[124, 97, 124]⟩ : ByteArray) (⟨#[124, 98, 124]⟩ : ByteArray) t217 t218 _ A3.out).mono ?_); rintro e w14 ⟨rfl, hb⟩; refine ⟨_, rfl, ?_⟩; have n0_ := Aside0.mk (Kd.R_below (by (with_reducible repeat (first | apply Kd.R_alloc | apply Kd.R_drewN | apply Kd.R_drew)); exact HO210.out) hb); have n1_ := Aside0.mk (Kd.R_below (by (with_reducible repeat (first | apply Kd.R_alloc | apply Kd.R_drewN | apply Kd.R_drew)); exact HO216.out) hb); have n2_ := Aside0.mk (below_step (by repeat (first | (with_reducible first | exact HB.out | apply below_alloc | apply pw_below_drewN | apply below_drew1) | exact HB.out)) hb); clear HO210; clear HO216; clear HB; have HO210 := n0_; have HO216 := n1_; have HB := n2_; clear n0_ n1_ n2_; (try clear hb); (try clear hb2); (try clear hk); (try clear hi); obtain ⟨Ao15, co15, eo15⟩ := Kd.R_slice HO216.out; subst eo15))
            go_ret
            exact ⟨by first | rfl | (simp [errW_none, errW_some] <;> rfl) | (simp [*, errW_none, errW_some] <;> rfl), by repeat (first | (with_reducible first | exact HB.out | apply below_alloc | apply pw_below_drewN | apply below_drew1) | exact HB.out)⟩
          · rw [if_neg c8] at H
            have c8b0 : (t217.toList == ([124, 97, 124, 98, 124] : List UInt8)) = false := beq_eq_false_iff_ne.mpr c8
            have c8b1 : (t217.toList != ([124, 97, 124, 98, 124] : List UInt8)) = true := bne_iff_ne.mpr c8
            obtain rfl := Option.some.inj H
            go_enter Try.func15, Try.ntmps15
            go_wp2_with (first | ((with_reducible refine gate_dst (N := 8) rfl ?_); (try (refine gate_guard (by rfl) ?_; dsimp only)); refine Kd.R_lit Kd.string _ 9 ?hg (N := 8) ?hd (xs := ([(⟨#[98]⟩ : ByteArray), (⟨#[97]⟩ : ByteArray), (⟨#[98]⟩ : ByteArray)] : List ByteArray)) (inner := [.string (⟨#[98]⟩ : ByteArray), .string (⟨#[97]⟩ : ByteArray), .string (⟨#[98]⟩ : ByteArray)]) (ok := fun _ => True) (okp := fun _ => True) ?hr ?hp (fun _ hk => hk) trivial (Below.refl _ _) (Nat.le_refl _) (by simp) ?_; (case hd => rfl); (case hg => rfl); (case hr => first | (go_simp; done) | (go_simp; rfl)); (case hp => exact (Reps.one (show Kd.M Kd.string _ _ _ (⟨#[98]⟩ : ByteArray) [.string (⟨#[98]⟩ : ByteArray)] from rfl) (Reps.one (show Kd.M Kd.string _ _ _ (⟨#[97]⟩ : ByteArray) [.string (⟨#[97]⟩ : ByteArray)] from rfl) (Reps.one (show Kd.M Kd.string _ _ _ (⟨#[98]⟩ : ByteArray) [.string (⟨#[98]⟩ : ByteArray)] from rfl) (Reps.none _ _))))); intro v209 w16 ho17 hb hg_ hnew_; clear hg_ hnew_; (first | rw [← Ny208.out] at ho17 | (simp only [Int.reduceToNat] at ho17; rw [← Ny208.out] at ho17)); have n0_ := Aside0.mk (Kd.R_lower ho17 (below_size (by repeat (first | (with_reducible first | exact HB.out | apply below_alloc | apply pw_below_drewN | apply below_drew1) | exact HB.out)))); have n1_ := Aside0.mk (below_step (by repeat (first | (with_reducible first | exact HB.out | apply below_alloc | apply pw_below_drewN | apply below_drew1) | exact HB.out)) hb); clear HB; have HO210 := n0_; have HB := n1_; clear n0_ n1_; clear hb ho17; obtain ⟨Ao18, co18, eo18⟩ := Kd.R_slice HO210.out; subst eo18) | ((with_reducible refine gate_callee (f := 16) rfl ?_); refine goesL_ (some 9) rfl rfl Try.func16 (by kernel_rfl) rfl #[.slice Ao18 y208.length co18] rfl (by (try simp only [List.map_toArray, List.map_cons, List.map_nil]); first | done | rfl | (simp only [List.length_drop, List.length_take]; rfl)) ?_; (with_reducible refine (feature_Format.calls k _ _ y208 t211 t212 _ ?side1 ?side2 A1.out).mono ?_); (case side1 => repeat (first | exact (Kd.R_reads' HO210.out).2.2 | (with_reducible refine Kd.C_alloc ?_ _) | (with_reducible refine Kd.C_drewN ?_ _) | (with_reducible refine Kd.C_drew ?_))); (case side2 => exact (Kd.R_reads' HO210.out).2.1); rintro e w19 ⟨rfl, hb⟩; refine ⟨_, rfl, ?_⟩; have n0_ := Aside0.mk (Kd.R_below (by (with_reducible repeat (first | apply Kd.R_alloc | apply Kd.R_drewN | apply Kd.R_drew)); exact HO210.out) hb); have n1_ := Aside0.mk (below_step (by repeat (first | (with_reducible first | exact HB.out | apply below_alloc | apply pw_below_drewN | apply below_drew1) | exact HB.out)) hb); clear HO210; clear HB; have HO210 := n0_; have HB := n1_; clear n0_ n1_; (try clear hb); (try clear hb2); (try clear hk); (try clear hi)) | ((with_reducible refine gate_callee (f := 12) rfl ?_); refine goesL_ (some 13) rfl rfl Try.func12 (by kernel_rfl) rfl #[.string (⟨#[124]⟩ : ByteArray)] rfl (by (try simp only [List.map_toArray, List.map_cons, List.map_nil]); first | done | rfl | (simp only [List.length_drop, List.length_take]; rfl)) ?_; (with_reducible refine (feature_Parse.calls k (⟨#[124]⟩ : ByteArray) t213 t214 _ A2.out).mono ?_); rintro e w20 ⟨v215, rfl, ho0, hb⟩; refine ⟨_, rfl, ?_⟩; have n0_ := Aside0.mk (Kd.R_elder' (by (with_reducible repeat (first | apply Kd.R_alloc | apply Kd.R_drewN | apply Kd.R_drew)); exact HO210.out) (Kd.R_base ho0) hb); have n1_ := Aside0.mk (Kd.R_lower (Kd.R_new' ho0 (Kd.R_lt (by (with_reducible repeat (first | apply Kd.R_alloc | apply Kd.R_drewN | apply Kd.R_drew)); exact HO210.out))) (below_size (by repeat (first | (with_reducible first | exact HB.out | apply below_alloc | apply pw_below_drewN | apply below_drew1) | exact HB.out)))); have n2_ := Aside0.mk (below_step (by repeat (first | (with_reducible first | exact HB.out | apply below_alloc | apply pw_below_drewN | apply below_drew1) | exact HB.out)) hb); clear HO210; clear HB; have HO210 := n0_; have HO216 := n1_; have HB := n2_; clear n0_ n1_ n2_; (try clear hb); (try clear hb2); (try clear hk); (try clear hi); (try clear ho0)) | ((with_reducible refine gate_callee (f := 20) rfl ?_); refine goesL_ (some 17) rfl rfl Try.func20 (by kernel_rfl) rfl #[.string (⟨#[124, 97, 124]⟩ : ByteArray), .string (⟨#[124, 98, 124]⟩ : ByteArray)] rfl (by (try simp only [List.map_toArray, List.map_cons, List.map_nil]); first | done | rfl | (simp only [List.length_drop, List.length_take]; rfl)) ?_; (with_reducible refine (feature_Union.calls k (⟨#[124, 97, 124]⟩ : ByteArray) (⟨#[124, 98, 124]⟩ : ByteArray) t217 t218 _ A3.out).mono ?_); rintro e w21 ⟨rfl, hb⟩; refine ⟨_, rfl, ?_⟩; have n0_ := Aside0.mk (Kd.R_below (by (with_reducible repeat (first | apply Kd.R_alloc | apply Kd.R_drewN | apply Kd.R_drew)); exact HO210.out) hb); have n1_ := Aside0.mk (Kd.R_below (by (with_reducible repeat (first | apply Kd.R_alloc | apply Kd.R_drewN | apply Kd.R_drew)); exact HO216.out) hb); have n2_ := Aside0.mk (below_step (by repeat (first | (with_reducible first | exact HB.out | apply below_alloc | apply pw_below_drewN | apply below_drew1) | exact HB.out)) hb); clear HO210; clear HO216; clear HB; have HO210 := n0_; have HO216 := n1_; have HB := n2_; clear n0_ n1_ n2_; (try clear hb); (try clear hb2); (try clear hk); (try clear hi); obtain ⟨Ao22, co22, eo22⟩ := Kd.R_slice HO216.out; subst eo22))
            go_ret
            exact ⟨by first | rfl | (simp [errW_none, errW_some] <;> rfl) | (simp [*, errW_none, errW_some] <;> rfl), by repeat (first | (with_reducible first | exact HB.out | apply below_alloc | apply pw_below_drewN | apply below_drew1) | exact HB.out)⟩
        · rw [if_neg c7] at H
          have c7b0 : (t214 == 0) = false := beq_eq_false_iff_ne.mpr c7
          have c7b1 : (t214 != 0) = true := bne_iff_ne.mpr c7
          obtain rfl := Option.some.inj H
          go_enter Try.func15, Try.ntmps15
          go_wp2_with (first | ((with_reducible refine gate_dst (N := 8) rfl ?_); (try (refine gate_guard (by rfl) ?_; dsimp only)); refine Kd.R_lit Kd.string _ 9 ?hg (N := 8) ?hd (xs := ([(⟨#[98]⟩ : ByteArray), (⟨#[97]⟩ : ByteArray), (⟨#[98]⟩ : ByteArray)] : List ByteArray)) (inner := [.string (⟨#[98]⟩ : ByteArray), .string (⟨#[97]⟩ : ByteArray), .string (⟨#[98]⟩ : ByteArray)]) (ok := fun _ => True) (okp := fun _ => True) ?hr ?hp (fun _ hk => hk) trivial (Below.refl _ _) (Nat.le_refl _) (by simp) ?_; (case hd => rfl); (case hg => rfl); (case hr => first | (go_simp; done) | (go_simp; rfl)); (case hp => exact (Reps.one (show Kd.M Kd.string _ _ _ (⟨#[98]⟩ : ByteArray) [.string (⟨#[98]⟩ : ByteArray)] from rfl) (Reps.one (show Kd.M Kd.string _ _ _ (⟨#[97]⟩ : ByteArray) [.string (⟨#[97]⟩ : ByteArray)] from rfl) (Reps.one (show Kd.M Kd.string _ _ _ (⟨#[98]⟩ : ByteArray) [.string (⟨#[98]⟩ : ByteArray)] from rfl) (Reps.none _ _))))); intro v209 w23 ho24 hb hg_ hnew_; clear hg_ hnew_; (first | rw [← Ny208.out] at ho24 | (simp only [Int.reduceToNat] at ho24; rw [← Ny208.out] at ho24)); have n0_ := Aside0.mk (Kd.R_lower ho24 (below_size (by repeat (first | (with_reducible first | exact HB.out | apply below_alloc | apply pw_below_drewN | apply below_drew1) | exact HB.out)))); have n1_ := Aside0.mk (below_step (by repeat (first | (with_reducible first | exact HB.out | apply below_alloc | apply pw_below_drewN | apply below_drew1) | exact HB.out)) hb); clear HB; have HO210 := n0_; have HB := n1_; clear n0_ n1_; clear hb ho24; obtain ⟨Ao25, co25, eo25⟩ := Kd.R_slice HO210.out; subst eo25) | ((with_reducible refine gate_callee (f := 16) rfl ?_); refine goesL_ (some 9) rfl rfl Try.func16 (by kernel_rfl) rfl #[.slice Ao25 y208.length co25] rfl (by (try simp only [List.map_toArray, List.map_cons, List.map_nil]); first | done | rfl | (simp only [List.length_drop, List.length_take]; rfl)) ?_; (with_reducible refine (feature_Format.calls k _ _ y208 t211 t212 _ ?side1 ?side2 A1.out).mono ?_); (case side1 => repeat (first | exact (Kd.R_reads' HO210.out).2.2 | (with_reducible refine Kd.C_alloc ?_ _) | (with_reducible refine Kd.C_drewN ?_ _) | (with_reducible refine Kd.C_drew ?_))); (case side2 => exact (Kd.R_reads' HO210.out).2.1); rintro e w26 ⟨rfl, hb⟩; refine ⟨_, rfl, ?_⟩; have n0_ := Aside0.mk (Kd.R_below (by (with_reducible repeat (first | apply Kd.R_alloc | apply Kd.R_drewN | apply Kd.R_drew)); exact HO210.out) hb); have n1_ := Aside0.mk (below_step (by repeat (first | (with_reducible first | exact HB.out | apply below_alloc | apply pw_below_drewN | apply below_drew1) | exact HB.out)) hb); clear HO210; clear HB; have HO210 := n0_; have HB := n1_; clear n0_ n1_; (try clear hb); (try clear hb2); (try clear hk); (try clear hi)) | ((with_reducible refine gate_callee (f := 12) rfl ?_); refine goesL_ (some 13) rfl rfl Try.func12 (by kernel_rfl) rfl #[.string (⟨#[124]⟩ : ByteArray)] rfl (by (try simp only [List.map_toArray, List.map_cons, List.map_nil]); first | done | rfl | (simp only [List.length_drop, List.length_take]; rfl)) ?_; (with_reducible refine (feature_Parse.calls k (⟨#[124]⟩ : ByteArray) t213 t214 _ A2.out).mono ?_); rintro e w27 ⟨v215, rfl, ho0, hb⟩; refine ⟨_, rfl, ?_⟩; have n0_ := Aside0.mk (Kd.R_elder' (by (with_reducible repeat (first | apply Kd.R_alloc | apply Kd.R_drewN | apply Kd.R_drew)); exact HO210.out) (Kd.R_base ho0) hb); have n1_ := Aside0.mk (Kd.R_lower (Kd.R_new' ho0 (Kd.R_lt (by (with_reducible repeat (first | apply Kd.R_alloc | apply Kd.R_drewN | apply Kd.R_drew)); exact HO210.out))) (below_size (by repeat (first | (with_reducible first | exact HB.out | apply below_alloc | apply pw_below_drewN | apply below_drew1) | exact HB.out)))); have n2_ := Aside0.mk (below_step (by repeat (first | (with_reducible first | exact HB.out | apply below_alloc | apply pw_below_drewN | apply below_drew1) | exact HB.out)) hb); clear HO210; clear HB; have HO210 := n0_; have HO216 := n1_; have HB := n2_; clear n0_ n1_ n2_; (try clear hb); (try clear hb2); (try clear hk); (try clear hi); (try clear ho0)) | ((with_reducible refine gate_callee (f := 20) rfl ?_); refine goesL_ (some 17) rfl rfl Try.func20 (by kernel_rfl) rfl #[.string (⟨#[124, 97, 124]⟩ : ByteArray), .string (⟨#[124, 98, 124]⟩ : ByteArray)] rfl (by (try simp only [List.map_toArray, List.map_cons, List.map_nil]); first | done | rfl | (simp only [List.length_drop, List.length_take]; rfl)) ?_; (with_reducible refine (feature_Union.calls k (⟨#[124, 97, 124]⟩ : ByteArray) (⟨#[124, 98, 124]⟩ : ByteArray) t217 t218 _ A3.out).mono ?_); rintro e w28 ⟨rfl, hb⟩; refine ⟨_, rfl, ?_⟩; have n0_ := Aside0.mk (Kd.R_below (by (with_reducible repeat (first | apply Kd.R_alloc | apply Kd.R_drewN | apply Kd.R_drew)); exact HO210.out) hb); have n1_ := Aside0.mk (Kd.R_below (by (with_reducible repeat (first | apply Kd.R_alloc | apply Kd.R_drewN | apply Kd.R_drew)); exact HO216.out) hb); have n2_ := Aside0.mk (below_step (by repeat (first | (with_reducible first | exact HB.out | apply below_alloc | apply pw_below_drewN | apply below_drew1) | exact HB.out)) hb); clear HO210; clear HO216; clear HB; have HO210 := n0_; have HO216 := n1_; have HB := n2_; clear n0_ n1_ n2_; (try clear hb); (try clear hb2); (try clear hk); (try clear hi); obtain ⟨Ao29, co29, eo29⟩ := Kd.R_slice HO216.out; subst eo29))
          go_ret
          exact ⟨by first | rfl | (simp [errW_none, errW_some] <;> rfl) | (simp [*, errW_none, errW_some] <;> rfl), by repeat (first | (with_reducible first | exact HB.out | apply below_alloc | apply pw_below_drewN | apply below_drew1) | exact HB.out)⟩
      · rw [if_neg c6] at H
        have c6b0 : ((t213.length : Int) == 0) = false := beq_eq_false_iff_ne.mpr c6
        have c6b1 : ((t213.length : Int) != 0) = true := bne_iff_ne.mpr c6
        have c6b2 : ¬ (t213 = []) := fun h_ => c6 (by rw [h_]; rfl)
        obtain rfl := Option.some.inj H
        go_enter Try.func15, Try.ntmps15
        go_wp2_with (first | ((with_reducible refine gate_dst (N := 8) rfl ?_); (try (refine gate_guard (by rfl) ?_; dsimp only)); refine Kd.R_lit Kd.string _ 9 ?hg (N := 8) ?hd (xs := ([(⟨#[98]⟩ : ByteArray), (⟨#[97]⟩ : ByteArray), (⟨#[98]⟩ : ByteArray)] : List ByteArray)) (inner := [.string (⟨#[98]⟩ : ByteArray), .string (⟨#[97]⟩ : ByteArray), .string (⟨#[98]⟩ : ByteArray)]) (ok := fun _ => True) (okp := fun _ => True) ?hr ?hp (fun _ hk => hk) trivial (Below.refl _ _) (Nat.le_refl _) (by simp) ?_; (case hd => rfl); (case hg => rfl); (case hr => first | (go_simp; done) | (go_simp; rfl)); (case hp => exact (Reps.one (show Kd.M Kd.string _ _ _ (⟨#[98]⟩ : ByteArray) [.string (⟨#[98]⟩ : ByteArray)] from rfl) (Reps.one (show Kd.M Kd.string _ _ _ (⟨#[97]⟩ : ByteArray) [.string (⟨#[97]⟩ : ByteArray)] from rfl) (Reps.one (show Kd.M Kd.string _ _ _ (⟨#[98]⟩ : ByteArray) [.string (⟨#[98]⟩ : ByteArray)] from rfl) (Reps.none _ _))))); intro v209 w30 ho31 hb hg_ hnew_; clear hg_ hnew_; (first | rw [← Ny208.out] at ho31 | (simp only [Int.reduceToNat] at ho31; rw [← Ny208.out] at ho31)); have n0_ := Aside0.mk (Kd.R_lower ho31 (below_size (by repeat (first | (with_reducible first | exact HB.out | apply below_alloc | apply pw_below_drewN | apply below_drew1) | exact HB.out)))); have n1_ := Aside0.mk (below_step (by repeat (first | (with_reducible first | exact HB.out | apply below_alloc | apply pw_below_drewN | apply below_drew1) | exact HB.out)) hb); clear HB; have HO210 := n0_; have HB := n1_; clear n0_ n1_; clear hb ho31; obtain ⟨Ao32, co32, eo32⟩ := Kd.R_slice HO210.out; subst eo32) | ((with_reducible refine gate_callee (f := 16) rfl ?_); refine goesL_ (some 9) rfl rfl Try.func16 (by kernel_rfl) rfl #[.slice Ao32 y208.length co32] rfl (by (try simp only [List.map_toArray, List.map_cons, List.map_nil]); first | done | rfl | (simp only [List.length_drop, List.length_take]; rfl)) ?_; (with_reducible refine (feature_Format.calls k _ _ y208 t211 t212 _ ?side1 ?side2 A1.out).mono ?_); (case side1 => repeat (first | exact (Kd.R_reads' HO210.out).2.2 | (with_reducible refine Kd.C_alloc ?_ _) | (with_reducible refine Kd.C_drewN ?_ _) | (with_reducible refine Kd.C_drew ?_))); (case side2 => exact (Kd.R_reads' HO210.out).2.1); rintro e w33 ⟨rfl, hb⟩; refine ⟨_, rfl, ?_⟩; have n0_ := Aside0.mk (Kd.R_below (by (with_reducible repeat (first | apply Kd.R_alloc | apply Kd.R_drewN | apply Kd.R_drew)); exact HO210.out) hb); have n1_ := Aside0.mk (below_step (by repeat (first | (with_reducible first | exact HB.out | apply below_alloc | apply pw_below_drewN | apply below_drew1) | exact HB.out)) hb); clear HO210; clear HB; have HO210 := n0_; have HB := n1_; clear n0_ n1_; (try clear hb); (try clear hb2); (try clear hk); (try clear hi)) | ((with_reducible refine gate_callee (f := 12) rfl ?_); refine goesL_ (some 13) rfl rfl Try.func12 (by kernel_rfl) rfl #[.string (⟨#[124]⟩ : ByteArray)] rfl (by (try simp only [List.map_toArray, List.map_cons, List.map_nil]); first | done | rfl | (simp only [List.length_drop, List.length_take]; rfl)) ?_; (with_reducible refine (feature_Parse.calls k (⟨#[124]⟩ : ByteArray) t213 t214 _ A2.out).mono ?_); rintro e w34 ⟨v215, rfl, ho0, hb⟩; refine ⟨_, rfl, ?_⟩; have n0_ := Aside0.mk (Kd.R_elder' (by (with_reducible repeat (first | apply Kd.R_alloc | apply Kd.R_drewN | apply Kd.R_drew)); exact HO210.out) (Kd.R_base ho0) hb); have n1_ := Aside0.mk (Kd.R_lower (Kd.R_new' ho0 (Kd.R_lt (by (with_reducible repeat (first | apply Kd.R_alloc | apply Kd.R_drewN | apply Kd.R_drew)); exact HO210.out))) (below_size (by repeat (first | (with_reducible first | exact HB.out | apply below_alloc | apply pw_below_drewN | apply below_drew1) | exact HB.out)))); have n2_ := Aside0.mk (below_step (by repeat (first | (with_reducible first | exact HB.out | apply below_alloc | apply pw_below_drewN | apply below_drew1) | exact HB.out)) hb); clear HO210; clear HB; have HO210 := n0_; have HO216 := n1_; have HB := n2_; clear n0_ n1_ n2_; (try clear hb); (try clear hb2); (try clear hk); (try clear hi); (try clear ho0)) | ((with_reducible refine gate_callee (f := 20) rfl ?_); refine goesL_ (some 17) rfl rfl Try.func20 (by kernel_rfl) rfl #[.string (⟨#[124, 97, 124]⟩ : ByteArray), .string (⟨#[124, 98, 124]⟩ : ByteArray)] rfl (by (try simp only [List.map_toArray, List.map_cons, List.map_nil]); first | done | rfl | (simp only [List.length_drop, List.length_take]; rfl)) ?_; (with_reducible refine (feature_Union.calls k (⟨#[124, 97, 124]⟩ : ByteArray) (⟨#[124, 98, 124]⟩ : ByteArray) t217 t218 _ A3.out).mono ?_); rintro e w35 ⟨rfl, hb⟩; refine ⟨_, rfl, ?_⟩; have n0_ := Aside0.mk (Kd.R_below (by (with_reducible repeat (first | apply Kd.R_alloc | apply Kd.R_drewN | apply Kd.R_drew)); exact HO210.out) hb); have n1_ := Aside0.mk (Kd.R_below (by (with_reducible repeat (first | apply Kd.R_alloc | apply Kd.R_drewN | apply Kd.R_drew)); exact HO216.out) hb); have n2_ := Aside0.mk (below_step (by repeat (first | (with_reducible first | exact HB.out | apply below_alloc | apply pw_below_drewN | apply below_drew1) | exact HB.out)) hb); clear HO210; clear HO216; clear HB; have HO210 := n0_; have HO216 := n1_; have HB := n2_; clear n0_ n1_ n2_; (try clear hb); (try clear hb2); (try clear hk); (try clear hi); obtain ⟨Ao36, co36, eo36⟩ := Kd.R_slice HO216.out; subst eo36))
        go_ret
        exact ⟨by first | rfl | (simp [errW_none, errW_some] <;> rfl) | (simp [*, errW_none, errW_some] <;> rfl), by repeat (first | (with_reducible first | exact HB.out | apply below_alloc | apply pw_below_drewN | apply below_drew1) | exact HB.out)⟩
    · rw [if_neg c5] at H
      have c5b0 : (t212 == 0) = false := beq_eq_false_iff_ne.mpr c5
      have c5b1 : (t212 != 0) = true := bne_iff_ne.mpr c5
      obtain rfl := Option.some.inj H
      go_enter Try.func15, Try.ntmps15
      go_wp2_with (first | ((with_reducible refine gate_dst (N := 8) rfl ?_); (try (refine gate_guard (by rfl) ?_; dsimp only)); refine Kd.R_lit Kd.string _ 9 ?hg (N := 8) ?hd (xs := ([(⟨#[98]⟩ : ByteArray), (⟨#[97]⟩ : ByteArray), (⟨#[98]⟩ : ByteArray)] : List ByteArray)) (inner := [.string (⟨#[98]⟩ : ByteArray), .string (⟨#[97]⟩ : ByteArray), .string (⟨#[98]⟩ : ByteArray)]) (ok := fun _ => True) (okp := fun _ => True) ?hr ?hp (fun _ hk => hk) trivial (Below.refl _ _) (Nat.le_refl _) (by simp) ?_; (case hd => rfl); (case hg => rfl); (case hr => first | (go_simp; done) | (go_simp; rfl)); (case hp => exact (Reps.one (show Kd.M Kd.string _ _ _ (⟨#[98]⟩ : ByteArray) [.string (⟨#[98]⟩ : ByteArray)] from rfl) (Reps.one (show Kd.M Kd.string _ _ _ (⟨#[97]⟩ : ByteArray) [.string (⟨#[97]⟩ : ByteArray)] from rfl) (Reps.one (show Kd.M Kd.string _ _ _ (⟨#[98]⟩ : ByteArray) [.string (⟨#[98]⟩ : ByteArray)] from rfl) (Reps.none _ _))))); intro v209 w37 ho38 hb hg_ hnew_; clear hg_ hnew_; (first | rw [← Ny208.out] at ho38 | (simp only [Int.reduceToNat] at ho38; rw [← Ny208.out] at ho38)); have n0_ := Aside0.mk (Kd.R_lower ho38 (below_size (by repeat (first | (with_reducible first | exact HB.out | apply below_alloc | apply pw_below_drewN | apply below_drew1) | exact HB.out)))); have n1_ := Aside0.mk (below_step (by repeat (first | (with_reducible first | exact HB.out | apply below_alloc | apply pw_below_drewN | apply below_drew1) | exact HB.out)) hb); clear HB; have HO210 := n0_; have HB := n1_; clear n0_ n1_; clear hb ho38; obtain ⟨Ao39, co39, eo39⟩ := Kd.R_slice HO210.out; subst eo39) | ((with_reducible refine gate_callee (f := 16) rfl ?_); refine goesL_ (some 9) rfl rfl Try.func16 (by kernel_rfl) rfl #[.slice Ao39 y208.length co39] rfl (by (try simp only [List.map_toArray, List.map_cons, List.map_nil]); first | done | rfl | (simp only [List.length_drop, List.length_take]; rfl)) ?_; (with_reducible refine (feature_Format.calls k _ _ y208 t211 t212 _ ?side1 ?side2 A1.out).mono ?_); (case side1 => repeat (first | exact (Kd.R_reads' HO210.out).2.2 | (with_reducible refine Kd.C_alloc ?_ _) | (with_reducible refine Kd.C_drewN ?_ _) | (with_reducible refine Kd.C_drew ?_))); (case side2 => exact (Kd.R_reads' HO210.out).2.1); rintro e w40 ⟨rfl, hb⟩; refine ⟨_, rfl, ?_⟩; have n0_ := Aside0.mk (Kd.R_below (by (with_reducible repeat (first | apply Kd.R_alloc | apply Kd.R_drewN | apply Kd.R_drew)); exact HO210.out) hb); have n1_ := Aside0.mk (below_step (by repeat (first | (with_reducible first | exact HB.out | apply below_alloc | apply pw_below_drewN | apply below_drew1) | exact HB.out)) hb); clear HO210; clear HB; have HO210 := n0_; have HB := n1_; clear n0_ n1_; (try clear hb); (try clear hb2); (try clear hk); (try clear hi)) | ((with_reducible refine gate_callee (f := 12) rfl ?_); refine goesL_ (some 13) rfl rfl Try.func12 (by kernel_rfl) rfl #[.string (⟨#[124]⟩ : ByteArray)] rfl (by (try simp only [List.map_toArray, List.map_cons, List.map_nil]); first | done | rfl | (simp only [List.length_drop, List.length_take]; rfl)) ?_; (with_reducible refine (feature_Parse.calls k (⟨#[124]⟩ : ByteArray) t213 t214 _ A2.out).mono ?_); rintro e w41 ⟨v215, rfl, ho0, hb⟩; refine ⟨_, rfl, ?_⟩; have n0_ := Aside0.mk (Kd.R_elder' (by (with_reducible repeat (first | apply Kd.R_alloc | apply Kd.R_drewN | apply Kd.R_drew)); exact HO210.out) (Kd.R_base ho0) hb); have n1_ := Aside0.mk (Kd.R_lower (Kd.R_new' ho0 (Kd.R_lt (by (with_reducible repeat (first | apply Kd.R_alloc | apply Kd.R_drewN | apply Kd.R_drew)); exact HO210.out))) (below_size (by repeat (first | (with_reducible first | exact HB.out | apply below_alloc | apply pw_below_drewN | apply below_drew1) | exact HB.out)))); have n2_ := Aside0.mk (below_step (by repeat (first | (with_reducible first | exact HB.out | apply below_alloc | apply pw_below_drewN | apply below_drew1) | exact HB.out)) hb); clear HO210; clear HB; have HO210 := n0_; have HO216 := n1_; have HB := n2_; clear n0_ n1_ n2_; (try clear hb); (try clear hb2); (try clear hk); (try clear hi); (try clear ho0)) | ((with_reducible refine gate_callee (f := 20) rfl ?_); refine goesL_ (some 17) rfl rfl Try.func20 (by kernel_rfl) rfl #[.string (⟨#[124, 97, 124]⟩ : ByteArray), .string (⟨#[124, 98, 124]⟩ : ByteArray)] rfl (by (try simp only [List.map_toArray, List.map_cons, List.map_nil]); first | done | rfl | (simp only [List.length_drop, List.length_take]; rfl)) ?_; (with_reducible refine (feature_Union.calls k (⟨#[124, 97, 124]⟩ : ByteArray) (⟨#[124, 98, 124]⟩ : ByteArray) t217 t218 _ A3.out).mono ?_); rintro e w42 ⟨rfl, hb⟩; refine ⟨_, rfl, ?_⟩; have n0_ := Aside0.mk (Kd.R_below (by (with_reducible repeat (first | apply Kd.R_alloc | apply Kd.R_drewN | apply Kd.R_drew)); exact HO210.out) hb); have n1_ := Aside0.mk (Kd.R_below (by (with_reducible repeat (first | apply Kd.R_alloc | apply Kd.R_drewN | apply Kd.R_drew)); exact HO216.out) hb); have n2_ := Aside0.mk (below_step (by repeat (first | (with_reducible first | exact HB.out | apply below_alloc | apply pw_below_drewN | apply below_drew1) | exact HB.out)) hb); clear HO210; clear HO216; clear HB; have HO210 := n0_; have HO216 := n1_; have HB := n2_; clear n0_ n1_ n2_; (try clear hb); (try clear hb2); (try clear hk); (try clear hi)))
      go_ret
      exact ⟨by first | rfl | (simp [errW_none, errW_some] <;> rfl) | (simp [*, errW_none, errW_some] <;> rfl), by repeat (first | (with_reducible first | exact HB.out | apply below_alloc | apply pw_below_drewN | apply below_drew1) | exact HB.out)⟩
  · rw [if_neg c4] at H
    have c4b0 : (t211.toList == ([124, 97, 124, 98, 124] : List UInt8)) = false := beq_eq_false_iff_ne.mpr c4
    have c4b1 : (t211.toList != ([124, 97, 124, 98, 124] : List UInt8)) = true := bne_iff_ne.mpr c4
    obtain rfl := Option.some.inj H
    go_enter Try.func15, Try.ntmps15
    go_wp2_with (first | ((with_reducible refine gate_dst (N := 8) rfl ?_); (try (refine gate_guard (by rfl) ?_; dsimp only)); refine Kd.R_lit Kd.string _ 9 ?hg (N := 8) ?hd (xs := ([(⟨#[98]⟩ : ByteArray), (⟨#[97]⟩ : ByteArray), (⟨#[98]⟩ : ByteArray)] : List ByteArray)) (inner := [.string (⟨#[98]⟩ : ByteArray), .string (⟨#[97]⟩ : ByteArray), .string (⟨#[98]⟩ : ByteArray)]) (ok := fun _ => True) (okp := fun _ => True) ?hr ?hp (fun _ hk => hk) trivial (Below.refl _ _) (Nat.le_refl _) (by simp) ?_; (case hd => rfl); (case hg => rfl); (case hr => first | (go_simp; done) | (go_simp; rfl)); (case hp => exact (Reps.one (show Kd.M Kd.string _ _ _ (⟨#[98]⟩ : ByteArray) [.string (⟨#[98]⟩ : ByteArray)] from rfl) (Reps.one (show Kd.M Kd.string _ _ _ (⟨#[97]⟩ : ByteArray) [.string (⟨#[97]⟩ : ByteArray)] from rfl) (Reps.one (show Kd.M Kd.string _ _ _ (⟨#[98]⟩ : ByteArray) [.string (⟨#[98]⟩ : ByteArray)] from rfl) (Reps.none _ _))))); intro v209 w43 ho44 hb hg_ hnew_; clear hg_ hnew_; (first | rw [← Ny208.out] at ho44 | (simp only [Int.reduceToNat] at ho44; rw [← Ny208.out] at ho44)); have n0_ := Aside0.mk (Kd.R_lower ho44 (below_size (by repeat (first | (with_reducible first | exact HB.out | apply below_alloc | apply pw_below_drewN | apply below_drew1) | exact HB.out)))); have n1_ := Aside0.mk (below_step (by repeat (first | (with_reducible first | exact HB.out | apply below_alloc | apply pw_below_drewN | apply below_drew1) | exact HB.out)) hb); clear HB; have HO210 := n0_; have HB := n1_; clear n0_ n1_; clear hb ho44; obtain ⟨Ao45, co45, eo45⟩ := Kd.R_slice HO210.out; subst eo45) | ((with_reducible refine gate_callee (f := 16) rfl ?_); refine goesL_ (some 9) rfl rfl Try.func16 (by kernel_rfl) rfl #[.slice Ao45 y208.length co45] rfl (by (try simp only [List.map_toArray, List.map_cons, List.map_nil]); first | done | rfl | (simp only [List.length_drop, List.length_take]; rfl)) ?_; (with_reducible refine (feature_Format.calls k _ _ y208 t211 t212 _ ?side1 ?side2 A1.out).mono ?_); (case side1 => repeat (first | exact (Kd.R_reads' HO210.out).2.2 | (with_reducible refine Kd.C_alloc ?_ _) | (with_reducible refine Kd.C_drewN ?_ _) | (with_reducible refine Kd.C_drew ?_))); (case side2 => exact (Kd.R_reads' HO210.out).2.1); rintro e w46 ⟨rfl, hb⟩; refine ⟨_, rfl, ?_⟩; have n0_ := Aside0.mk (Kd.R_below (by (with_reducible repeat (first | apply Kd.R_alloc | apply Kd.R_drewN | apply Kd.R_drew)); exact HO210.out) hb); have n1_ := Aside0.mk (below_step (by repeat (first | (with_reducible first | exact HB.out | apply below_alloc | apply pw_below_drewN | apply below_drew1) | exact HB.out)) hb); clear HO210; clear HB; have HO210 := n0_; have HB := n1_; clear n0_ n1_; (try clear hb); (try clear hb2); (try clear hk); (try clear hi)) | ((with_reducible refine gate_callee (f := 12) rfl ?_); refine goesL_ (some 13) rfl rfl Try.func12 (by kernel_rfl) rfl #[.string (⟨#[124]⟩ : ByteArray)] rfl (by (try simp only [List.map_toArray, List.map_cons, List.map_nil]); first | done | rfl | (simp only [List.length_drop, List.length_take]; rfl)) ?_; (with_reducible refine (feature_Parse.calls k (⟨#[124]⟩ : ByteArray) t213 t214 _ A2.out).mono ?_); rintro e w47 ⟨v215, rfl, ho0, hb⟩; refine ⟨_, rfl, ?_⟩; have n0_ := Aside0.mk (Kd.R_elder' (by (with_reducible repeat (first | apply Kd.R_alloc | apply Kd.R_drewN | apply Kd.R_drew)); exact HO210.out) (Kd.R_base ho0) hb); have n1_ := Aside0.mk (Kd.R_lower (Kd.R_new' ho0 (Kd.R_lt (by (with_reducible repeat (first | apply Kd.R_alloc | apply Kd.R_drewN | apply Kd.R_drew)); exact HO210.out))) (below_size (by repeat (first | (with_reducible first | exact HB.out | apply below_alloc | apply pw_below_drewN | apply below_drew1) | exact HB.out)))); have n2_ := Aside0.mk (below_step (by repeat (first | (with_reducible first | exact HB.out | apply below_alloc | apply pw_below_drewN | apply below_drew1) | exact HB.out)) hb); clear HO210; clear HB; have HO210 := n0_; have HO216 := n1_; have HB := n2_; clear n0_ n1_ n2_; (try clear hb); (try clear hb2); (try clear hk); (try clear hi); (try clear ho0)) | ((with_reducible refine gate_callee (f := 20) rfl ?_); refine goesL_ (some 17) rfl rfl Try.func20 (by kernel_rfl) rfl #[.string (⟨#[124, 97, 124]⟩ : ByteArray), .string (⟨#[124, 98, 124]⟩ : ByteArray)] rfl (by (try simp only [List.map_toArray, List.map_cons, List.map_nil]); first | done | rfl | (simp only [List.length_drop, List.length_take]; rfl)) ?_; (with_reducible refine (feature_Union.calls k (⟨#[124, 97, 124]⟩ : ByteArray) (⟨#[124, 98, 124]⟩ : ByteArray) t217 t218 _ A3.out).mono ?_); rintro e w48 ⟨rfl, hb⟩; refine ⟨_, rfl, ?_⟩; have n0_ := Aside0.mk (Kd.R_below (by (with_reducible repeat (first | apply Kd.R_alloc | apply Kd.R_drewN | apply Kd.R_drew)); exact HO210.out) hb); have n1_ := Aside0.mk (Kd.R_below (by (with_reducible repeat (first | apply Kd.R_alloc | apply Kd.R_drewN | apply Kd.R_drew)); exact HO216.out) hb); have n2_ := Aside0.mk (below_step (by repeat (first | (with_reducible first | exact HB.out | apply below_alloc | apply pw_below_drewN | apply below_drew1) | exact HB.out)) hb); clear HO210; clear HO216; clear HB; have HO210 := n0_; have HO216 := n1_; have HB := n2_; clear n0_ n1_ n2_; (try clear hb); (try clear hb2); (try clear hk); (try clear hi)))
    go_ret
    exact ⟨by first | rfl | (simp [errW_none, errW_some] <;> rfl) | (simp [*, errW_none, errW_some] <;> rfl), by repeat (first | (with_reducible first | exact HB.out | apply below_alloc | apply pw_below_drewN | apply below_drew1) | exact HB.out)⟩

end Go.Proofs.Ytcgglamgemgeiaa.Q
/- Conv -/
namespace Go.Proofs.Ytcgglamgemgeiaa.Q
open Go.RowKit Go.Proofs.YtcgglamgemgeiaaW.PrintWords Go.Proofs.YtcgglamgemgeiaaW.PrintLast
section
variable {P : Program} {ops : Array Oper} {Q : Exit → Act → World → Prop} {o : Oper} {rest : List Oper} {a : Act}
theorem C_bytes (W : World) (e : TypeId) (s : ByteArray) (hm : s.size ≤ 9223372036854775807) : Kd.C (Kd.int .u8) (Lib.bytesWorld W e s) (some ⟨W.heap.size, 0, none⟩) (bytesOf s).length (bytesOf s) := by
  refine Kd.C_of_reads (d := (0 : Int)) (h1 := fun _ => rfl) ?_
  refine ⟨rfl, by rw [bytesOf_length]; exact hm, fun hp => ⟨_, rfl, fun j hj => ?_⟩⟩
  have hj' : j < s.size := by rw [bytesOf_length] at hj; exact hj
  have h := Lib.bytesWorld_cell W e s j hj'
  have e2 : (bytesOf s).getD j 0 = ((s.data.toList.getD j 0).toNat : Int) := by
    unfold bytesOf
    have : j < s.data.toList.length := by rw [data_length]; exact hj'
    simp [List.getD_eq_getElem?_getD, List.getElem?_map, List.getElem?_eq_getElem this]
  have ea : (⟨W.heap.size, 0, none⟩ : Addr).add j = ⟨W.heap.size, j, none⟩ := by
    by_cases h0 : j = 0 <;> simp [Addr.add, h0]
  rw [ea, e2]; exact h
theorem below_bytes (W : World) (e : TypeId) (s : ByteArray) : Below W.heap.size W (Lib.bytesWorld W e s) := by
  refine ⟨by simp [Lib.bytesWorld, World.freeze, World.alloc, World.drew, -World.alloc_eq, -World.drew_eq], by simp [Lib.bytesWorld, World.freeze, World.alloc, World.drew, -World.alloc_eq, -World.drew_eq], by simp [Lib.bytesWorld, World.freeze, World.alloc, World.drew, -World.alloc_eq, -World.drew_eq], by rw [Lib.bytesWorld_size]; omega, fun k hk => Lib.bytesWorld_at_old W e s k hk⟩
theorem R_conv {w0 W : World} (base e : Nat) (hgd : o.guard = none) (src dst : TypeId) (x : Operand) (ho : o.op = .convert src dst x) (s : ByteArray) (hx : a.eval x = .string s) {u : TypeDesc}
    (hs : P.underlying src = some u) (hd : P.underlying dst = some (.slice e)) (he : P.underlying e = some (.int .u8)) (HB : Below base w0 W) (hbase : base ≤ W.heap.size) (hm : s.size ≤ 9223372036854775807)
    (h : ∀ A c w1, Kd.C (Kd.int .u8) w1 A (bytesOf s).length (bytesOf s) → (bytesOf s).length ≤ c → Below base w0 w1 → Below W.heap.size W w1 → wpList P ops Q rest (a.put o.dst (.slice A (bytesOf s).length c)) w1) : wpList P ops Q (o :: rest) a W := by
  have hb := below_bytes W e s
  refine Kd.event_run (w1 := Lib.bytesWorld W e s) (v := .slice (some ⟨W.heap.size, 0, none⟩) s.size (grownCap W s.size 0 e)) hgd ?_ ?_
  · have hr := Lib.run_convert_string_bytes (P := P) W src dst e s hs hd he
    unfold execOp
    simp only [ho, hx]
    simp [hr]
  · have := h (some ⟨W.heap.size, 0, none⟩) (grownCap W s.size 0 e) (Lib.bytesWorld W e s) (C_bytes W e s hm) (by rw [bytesOf_length]; exact grownCap_ge ..) (HB.trans (hb.mono hbase)) hb
    rwa [bytesOf_length] at this
end
end Go.Proofs.Ytcgglamgemgeiaa.Q
/- FCorporaref05In -/
namespace Go.Proofs.Ytcgglamgemgeiaa.Q
open Go.RowKit Go.Proofs.YtcgglamgemgeiaaW.PrintWords Go.Proofs.YtcgglamgemgeiaaW.PrintLast Go.Proofs.YtcgglamgemgeiaaW.PrintMore
attribute [local go_sem] max2_int min2_int max_two min_two max_three min_three max_four min_four   -- for this text's walks alone
set_option linter.unusedVariables false
set_option linter.unusedSimpArgs false

/-! ### corporaref05_In: function 30 -/
def corporaref05_In.l0 : Nat → Int → List Int → Int → Int → Option (Bool)
  | 0, _, _, _, _ => none
  | k + 1, x1, x7, x8, x9 => if x9 < x8 then (if 0 ≤ x9 then (if x9 < (x7.length : Int) then (if (rd x7 x9) = x1 then (some true) else (corporaref05_In.l0 k x1 x7 x8 (wrap64 (x9 + 1)))) else (none)) else (none)) else (some false)
def corporaref05_In.f (k : Nat) (l0 : List Int) (a1 : Int) : Option (Bool) := corporaref05_In.l0 k a1 l0 (l0.length : Int) 0
theorem corporaref05_In.mono_l : ∀ k, (∀ y0 y1 y2 y3, LeO (corporaref05_In.l0 k y0 y1 y2 y3) (corporaref05_In.l0 (k + 1) y0 y1 y2 y3))
  | 0 => fun _ _ _ _ r h => by simp [corporaref05_In.l0] at h
  | k + 1 => by
    have ih0 := corporaref05_In.mono_l k
    · intro y0 y1 y2 y3
      unfold corporaref05_In.l0
      repeat' first
      | (with_reducible exact ih0 _ _ _ _)
      | (with_reducible exact LeO.refl _)
      | (with_reducible exact LeO.none _)
      | (with_reducible refine LeO.ite ?_ ?_)
      | (with_reducible refine LeO.bind ?_ (fun _ => ?_))
      | exact ih0 _ _ _ _
      | exact LeO.none _
      | refine LeO.ite ?_ ?_
      | refine LeO.bind ?_ (fun _ => ?_)
theorem corporaref05_In.mono : ∀ a0 a1 k, LeO (corporaref05_In.f k a0 a1) (corporaref05_In.f (k + 1) a0 a1) := by
  intro a0 a1 k
  have ih0 := corporaref05_In.mono_l k
  unfold corporaref05_In.f
  repeat' first
      | (with_reducible exact ih0 _ _ _ _)
      | (with_reducible exact LeO.refl _)
      | (with_reducible exact LeO.none _)
      | (with_reducible refine LeO.ite ?_ ?_)
      | (with_reducible refine LeO.bind ?_ (fun _ => ?_))
      | exact ih0 _ _ _ _
      | exact LeO.none _
      | refine LeO.ite ?_ ?_
      | refine LeO.bind ?_ (fun _ => ?_)
set_option maxHeartbeats 8000000 in
set_option maxRecDepth 100000 in
theorem corporaref05_In.calls (k : Nat) (A0 : Option Addr) (c0 : Nat) (l0 : List Int) (a1 : Int) (r : Bool) (w : World) (hr0 : Kd.C (Kd.int .u8) w A0 l0.length l0) (hc0 : l0.length ≤ c0) (h : corporaref05_In.f k l0 a1 = some r) :
    Calls Try.prog 30 #[.slice A0 l0.length c0, .int .u8 a1] w fun e w' => e = .returned (.bool r) ∧ Drawn0 w w' := by
  have HR0 := Aside0.mk hr0
  have HC0 := Aside0.mk hc0
  clear hr0 hc0
  have H : (corporaref05_In.l0 k a1 l0 (l0.length : Int) 0) = some r := h
  clear h
  have H' := Aside0.mk H
  clear H
  go_enter Try.func30, Try.ntmps30
  go_wp2
  go_loopg [9] k (fun kq v9 w' => ∃ (x9_1 : Int), v9 = .int .i64 x9_1 ∧ Aside0 (corporaref05_In.l0 kq a1 l0 (l0.length : Int) x9_1 = some r) ∧ Aside0 (kq ≤ k) ∧ Drawn0 w w')
  case atStart => exact ⟨(0), (by first | rfl | (simp; done) | (simp [*]; done)), H', ⟨Nat.le_refl _⟩, by repeat (first | exact Drawn0.refl _ | apply Drawn0.step)⟩
  case round =>
    clear H'
    try clear p2
    obtain ⟨x9_1, rfl, HA, HK1, ⟨m1, rfl⟩⟩ := hrel
    cases gk with
    | zero => exact absurd HA.out (by simp [corporaref05_In.l0])
    | succ k1 =>
      have H := HA.out
      clear HA
      simp only [corporaref05_In.l0] at H
      by_cases c3 : x9_1 < (l0.length : Int)
      · rw [if_pos c3] at H
        have c3b0 : decide (x9_1 < (l0.length : Int)) = true := decide_eq_true c3
        clear c3
        by_cases c4 : 0 ≤ x9_1
        · rw [if_pos c4] at H
          have c4b0 : decide (0 ≤ x9_1) = true := decide_eq_true c4
          clear c4
          by_cases c5 : x9_1 < (l0.length : Int)
          · rw [if_pos c5] at H
            have c5b0 : decide (x9_1 < (l0.length : Int)) = true := decide_eq_true c5
            clear c5
            by_cases c6 : (rd l0 x9_1) = a1
            · rw [if_pos c6] at H
              have c6b0 : ((rd l0 x9_1) == a1) = true := beq_iff_eq.mpr c6
              have c6b1 : ((rd l0 x9_1) != a1) = false := bne_eq_false_iff_eq.mpr c6
              clear c6
              obtain rfl := Option.some.inj H
              have p233 : 0 ≤ (x9_1 : Int) := of_decide_eq_true (by first | (with_reducible assumption) | assumption)
              have q233 : x9_1 < (l0.length : Int) := of_decide_eq_true (by first | (with_reducible assumption) | assumption)
              obtain ⟨ad233, e233, hx233_0⟩ := Kd.at_int HR0.out x9_1 p233 q233
              cases e233
              replace p233 := eq_true p233
              replace q233 := eq_true q233
              go_wp2
              go_ret
              exact ⟨by first | rfl | (simp; done) | (simp [*]; done), by repeat (first | exact Drawn0.refl _ | apply Drawn0.step)⟩
            · rw [if_neg c6] at H
              have c6b0 : ((rd l0 x9_1) == a1) = false := beq_eq_false_iff_ne.mpr c6
              have c6b1 : ((rd l0 x9_1) != a1) = true := bne_iff_ne.mpr c6
              have H' := Aside0.mk H
              clear H
              have p233 : 0 ≤ (x9_1 : Int) := of_decide_eq_true (by first | (with_reducible assumption) | assumption)
              have q233 : x9_1 < (l0.length : Int) := of_decide_eq_true (by first | (with_reducible assumption) | assumption)
              obtain ⟨ad233, e233, hx233_0⟩ := Kd.at_int HR0.out x9_1 p233 q233
              cases e233
              replace p233 := eq_true p233
              replace q233 := eq_true q233
              go_wp2
              go_roundg k1
              case measure => have := HK1.out; omega
              case rel => exact ⟨(wrap64 (x9_1 + 1)), (by first | rfl | (simp; done) | (simp [*]; done)), H', ⟨by have := HK1.out; omega⟩, by repeat (first | exact Drawn0.refl _ | apply Drawn0.step)⟩
          · rw [if_neg c5] at H
            exact absurd H (by simp)
        · rw [if_neg c4] at H
          exact absurd H (by simp)
      · rw [if_neg c3] at H
        have c3b0 : decide (x9_1 < (l0.length : Int)) = false := decide_eq_false c3
        clear c3
        obtain rfl := Option.some.inj H
        go_wp2
        go_ret
        exact ⟨by first | rfl | (simp; done) | (simp [*]; done), by repeat (first | exact Drawn0.refl _ | apply Drawn0.step)⟩

end Go.Proofs.Ytcgglamgemgeiaa.Q
/- InF -/
namespace Go.Proofs.Ytcgglamgemgeiaa.Q
open Go.RowKit Go.Proofs.YtcgglamgemgeiaaW.PrintWords Go.Proofs.YtcgglamgemgeiaaW.PrintLast
def inF_ (k : Nat) (s : ByteArray) (c : Int) : Option Bool := if s.size ≤ 9223372036854775807 then corporaref05_In.f k (bytesOf s) c else none
theorem inF_.mono : ∀ s c k, LeO (inF_ k s c) (inF_ (k + 1) s c) := by
  intro s c k
  unfold inF_
  exact LeO.ite (corporaref05_In.mono _ _ _) (LeO.none _)
end Go.Proofs.Ytcgglamgemgeiaa.Q
/- QUnit -/
namespace Go.Proofs.Ytcgglamgemgeiaa.Q
open Go.RowKit Go.Proofs.YtcgglamgemgeiaaW.PrintWords Go.Proofs.YtcgglamgemgeiaaW.PrintLast Go.Proofs.YtcgglamgemgeiaaW.PrintMore
theorem info56 : (Try.prog.info? 56).map (fun i => (i.zero, i.size, i.bytes)) = some (some (.agg #[(.int .i32 0), (.int .i64 0), (.int .i64 0), (.bool false)]), 4, 32) := by kernel_rfl
/-! #### struct type 56 -/
structure S56 where
  f0 : Int
  f1 : Int
  f2 : Int
  f3 : Bool
def z56 : S56 := ⟨(0 : Int), (0 : Int), (0 : Int), false⟩
def k56 : Kd S56 := Kd.iso (Kd.pair (Kd.int .i32) (Kd.pair (Kd.int .i64) (Kd.pair (Kd.int .i64) Kd.bool))) (fun x : S56 => (x.f0, x.f1, x.f2, x.f3))
theorem k56_open {w : World} {x : S56} {cs : List Value} (h : k56.K w x cs) : cs = [.int .i32 x.f0, .int .i64 x.f1, .int .i64 x.f2, .bool x.f3] := by
  obtain ⟨_, _, rfl, rfl, ⟨_, _, rfl, rfl, ⟨_, _, rfl, rfl, rfl⟩⟩⟩ := h
  exact rfl
theorem k56_openM {w : World} {base : Nat} {ok : Nat → Prop} {x : S56} {cs : List Value} (h : k56.M w base ok x cs) : cs = [.int .i32 x.f0, .int .i64 x.f1, .int .i64 x.f2, .bool x.f3] := by
  obtain ⟨_, _, rfl, rfl, ⟨_, _, rfl, rfl, ⟨_, _, rfl, rfl, rfl⟩⟩⟩ := h
  exact rfl
theorem k56_mk (w : World) (x : S56)  : k56.K w x [.int .i32 x.f0, .int .i64 x.f1, .int .i64 x.f2, .bool x.f3] := ⟨[.int .i32 x.f0], [.int .i64 x.f1, .int .i64 x.f2, .bool x.f3], rfl, rfl, ⟨[.int .i64 x.f1], [.int .i64 x.f2, .bool x.f3], rfl, rfl, ⟨[.int .i64 x.f2], [.bool x.f3], rfl, rfl, rfl⟩⟩⟩
theorem k56_mkM (w : World) (base : Nat) (ok : Nat → Prop) (x : S56)  : k56.M w base ok x [.int .i32 x.f0, .int .i64 x.f1, .int .i64 x.f2, .bool x.f3] := ⟨[.int .i32 x.f0], [.int .i64 x.f1, .int .i64 x.f2, .bool x.f3], rfl, rfl, ⟨[.int .i64 x.f1], [.int .i64 x.f2, .bool x.f3], rfl, rfl, ⟨[.int .i64 x.f2], [.bool x.f3], rfl, rfl, rfl⟩⟩⟩
def rd_T56 (xs : List S56) (i : Int) : S56 := xs.getD i.toNat z56
theorem at_T56 {w : World} {A : Option Addr} {n : Nat} {xs : List S56} (h : Kd.C k56 w A n xs) (i : Int) (h0 : 0 ≤ i) (h1 : i < n) : ∃ ad , A = some ad ∧ w.cell? (ad.add (i.toNat * 4)) = some (.int .i32 (rd_T56 xs i).f0) ∧ w.cell? ⟨(ad.add (i.toNat * 4)).block, (ad.add (i.toNat * 4)).off + 1, none⟩ = some (.int .i64 (rd_T56 xs i).f1) ∧ w.cell? ⟨(ad.add (i.toNat * 4)).block, (ad.add (i.toNat * 4)).off + 2, none⟩ = some (.int .i64 (rd_T56 xs i).f2) ∧ w.cell? ⟨(ad.add (i.toNat * 4)).block, (ad.add (i.toNat * 4)).off + 3, none⟩ = some (.bool (rd_T56 xs i).f3) := by
  obtain ⟨ad, c, e, _, hK, hc0⟩ := Kd.C_get h z56 i h0 h1
  have hc : ∀ j u, c[j]? = some u → w.cell? (ad.add (i.toNat * 4 + j)) = some u := hc0
  obtain rfl := k56_open hK
  exact ⟨ad, e, hc 0 _ rfl, by rw [← add_field _ _ 1 (by omega)]; exact hc 1 _ rfl, by rw [← add_field _ _ 2 (by omega)]; exact hc 2 _ rfl, by rw [← add_field _ _ 3 (by omega)]; exact hc 3 _ rfl⟩
end Go.Proofs.Ytcgglamgemgeiaa.Q
/- Range -/
namespace Go.Proofs.Ytcgglamgemgeiaa.Q
open Go.RowKit Go.Lib Go.Proofs.YtcgglamgemgeiaaW.PrintWords Go.Proofs.YtcgglamgemgeiaaW.PrintLast
/-- The rune at a place, and how many bytes it takes. -/
def rn_ (s : ByteArray) (p : Int) : Int := ((Utf8.decode s p.toNat).1 : Int)
def wd_ (s : ByteArray) (p : Int) : Int := ((Utf8.decode s p.toNat).2 : Int)
theorem wd_nn (s : ByteArray) (p : Int) : 0 ≤ wd_ s p := Int.natCast_nonneg _
theorem iter_size (w : World) (s : ByteArray) (p : Nat) : (w.iter s p).heap.size = w.heap.size + 1 := by simp [World.iter]
theorem next_rn {P : Program} (W : World) (b : Nat) (s : ByteArray) (x : Int) (ty : TypeId) (h0 : 0 ≤ x) (hW : W.heap[b]? = some (.stringIter s x.toNat)) (h : x.toNat < s.size) :
    (Instr.next (.pointer (some ⟨b, 0, none⟩)) true ty).run P W = .ok (.tuple #[.bool true, .int .i64 x, .int .i32 (rn_ s x)]) (W.putObj b (.stringIter s (x + wd_ s x).toNat)) := by
  have e1 : ((x.toNat : Nat) : Int) = x := Int.toNat_of_nonneg h0
  have e2 : (x + wd_ s x).toNat = x.toNat + (Utf8.decode s x.toNat).2 := by unfold wd_; omega
  have := run_next_at (P := P) W b s x.toNat ty hW h
  rw [e1, ← e2] at this
  exact this
theorem turn_below (w wr : World) (s : ByteArray) (p q : Nat) (h : Below (w.iter s p).heap.size (w.iter s p) wr) : Below (w.iter s q).heap.size (w.iter s q) (wr.putObj w.heap.size (.stringIter s q)) := by
  have hs := iter_size w s p
  have hq := iter_size w s q
  have h1 := h.size
  refine ⟨h.os, h.tape, h.output, by rw [World.putObj_size]; omega, fun k hk => ?_⟩
  by_cases e : k = w.heap.size
  · subst e
    rw [World.putObj_heap_same (by omega), World.iter_heap]
  · rw [World.putObj_heap_other e, h.block k (by omega)]
    have a1 := Below.heap_alloc w (.stringIter s p) k (by omega)
    have a2 := Below.heap_alloc w (.stringIter s q) k (by omega)
    exact a1.trans a2.symm
theorem turn_R {α : Type} {d : Kd α} {e : Nat} {ok : Nat → Prop} {v : Value} {xs : List α} (w wr : World) (s : ByteArray) (p q : Nat) (h : d.R e wr (w.iter s p).heap.size ok v xs) : d.R e (wr.putObj w.heap.size (.stringIter s q)) (w.iter s q).heap.size ok v xs := by
  have hs := iter_size w s p
  have hq := iter_size w s q
  rw [hq]; rw [hs] at h
  exact Kd.R_mono (Kd.R_step (Kd.R_bound h) (fun k hk _ => World.putObj_heap_other (by have := hk.2.1; omega))) (fun k hk => hk.1)
end Go.Proofs.Ytcgglamgemgeiaa.Q
