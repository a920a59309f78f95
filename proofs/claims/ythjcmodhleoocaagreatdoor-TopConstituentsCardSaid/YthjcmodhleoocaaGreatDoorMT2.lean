/- For every corpus that comes in, TopConstituents returns true and leaves the corpus as it was; the listed variables are tied to the program's text. (Part 2.) -/
import Derived.Test.YthjcmodhleoocaaGreatDoorProg
import Derived.Deep.QuietTactic
import Derived.BigQuiet
import Derived.Below
import Derived.IntWalk
import Derived.Lib.Hide
import Derived.WalkKit
import Derived.Deep.LoopGhost
import Derived.Lib.ValidLaws
import Derived.RangeFuncNested
import Derived.RangeFuncBound
import Derived.RangeFuncCalls
import Derived.RangeFuncLeaves
import Derived.Shelf.Abstract
import Derived.Shelf.RegionOpen
import Derived.OwnWalkIn
import Derived.TacticsInMore
import Derived.LoopNIn
import Derived.LoopIn
import Derived.Laws.RangeAny
import Derived.Test.YthjcmodhleoocaaGreatDoorMT1
import Derived.LoopTactic
set_option linter.unusedVariables false
set_option linter.unusedSimpArgs false
set_option linter.unusedSectionVars false
/- ZScan -/
namespace Go.Proofs.YthjcmodhleoocaaGreatDoor.Z
open Go Go.RowKit Go.Lib
set_option linter.unusedVariables false
set_option linter.unusedSimpArgs false
theorem ret_b {a b : Bool} (h : a = b) : Ending.returned (.bool a) = .returned (.bool b) := by rw [h]
theorem ret_s {a b : ByteArray} (h : a = b) : Ending.returned (.string a) = .returned (.string b) := by rw [h]
theorem ret_i {k : IntKind} {a b : Int} (h : a = b) : Ending.returned (.int k a) = .returned (.int k b) := by rw [h]
/-- Whether a byte can begin a name. -/
def begB (c : Int) : Bool := decide (65 ≤ c ∧ c ≤ 90) || decide (97 ≤ c ∧ c ≤ 122) || decide (c = 95)
def goB (c : Int) : Bool := begB c || decide (48 ≤ c ∧ c ≤ 57) || decide (c = 45)
theorem beg (c : Int) (w : World) : Calls Tryz.prog 58 #[.int .u8 c] w fun e w' => e = .returned (.bool (begB c)) ∧ w = w' := by
  go_enter Tryz.func58, Tryz.ntmps58
  go_wp2
  all_goals
    go_ret
    exact ⟨ret_b (by rw [Bool.eq_iff_iff]; simp [begB] <;> omega), rfl⟩
theorem goesOn (c : Int) (w : World) : Calls Tryz.prog 59 #[.int .u8 c] w fun e w' => e = .returned (.bool (goB c)) ∧ w = w' := by
  go_enter Tryz.func59, Tryz.ntmps59
  go_wp2_with (go_at_call 58; refine (beg _ _).mono ?_; rintro e w' ⟨rfl, rfl⟩)
  all_goals
    go_ret
    exact ⟨ret_b (by rw [Bool.eq_iff_iff]; simp [goB, *] <;> omega), rfl⟩
theorem goesT {c : Int} {v : Bool} (hv : goB c = v) (w : World) : Calls Tryz.prog 59 #[.int .u8 c] w fun e w' => e = .returned (.bool v) ∧ w' = w := (goesOn c w).mono fun _ _ ⟨h, k⟩ => ⟨hv ▸ h, k.symm⟩
structure Aside (p : Prop) : Prop where mk :: (out : p)
section
variable {w : World} {b k : Nat} {s : ByteArray}
/-- The scanner at block b. -/
def Sc (w : World) (b : Nat) (s : ByteArray) (k : Nat) : Prop := w.heap[b]? = some (.cells #[.string s, .int .i64 k] 135 (0, 0))
def byteAt (s : ByteArray) (k : Nat) : Int := ((s.data.toList[k]?.map fun c => (c.toNat : Int)).getD (-1))
theorem byteAt_lt (h : k < s.size) : byteAt s k = (s[k].toNat : Int) := by
  have : s.data.toList[k]? = some s[k] := by simp [h]; rfl
  simp [byteAt, this]
theorem byteAt_ge (h : ¬ k < s.size) : byteAt s k = -1 := by
  have : s.data.toList[k]? = none := by simp; exact Nat.le_of_not_lt h
  simp [byteAt, this]
theorem lt_of_byteAt {c : Int} (h : byteAt s k = c) (hc : 0 ≤ c) : k < s.size := by
  by_cases hk : k < s.size
  · exact hk
  · rw [byteAt_ge hk] at h; omega
theorem Sc.fr (h : Sc w b s k) (i : Nat) : w.frozen? ⟨b, i, none⟩ = false := by unfold World.frozen?; rw [h]; rfl
theorem Sc.c0 (h : Sc w b s k) : w.cell? ⟨b, 0, none⟩ = some (.string s) := by unfold World.cell?; rw [h]; rfl
theorem Sc.c1 (h : Sc w b s k) : w.cell? ⟨b, 1, none⟩ = some (.int .i64 k) := by unfold World.cell?; rw [h]; rfl
end
/-- sees(c) -/
theorem sees (w : World) (b k : Nat) (s : ByteArray) (c : Int) (hc : 0 ≤ c) (hm : s.size < 4294967281) (h : Sc w b s k) :
    Calls Tryz.prog 113 #[.pointer (some ⟨b, 0, none⟩), .int .u8 c] w fun e w' => e = .returned (.bool (byteAt s k == c)) ∧ ∃ n, w' = w.drewN n := by
  have h0 := h.c0
  have h1 := h.c1
  by_cases hk : k < s.size
  · have hk0 : (0 : Int) ≤ k := by omega
    have hk1 : decide ((k : Int) < s.size) = true := by simpa using hk
    go_enter Tryz.func113, Tryz.ntmps113
    go_wp2
    go_quiet (fail)
    go_wp2
    go_ret
    exact ⟨ret_b (by rw [byteAt_lt hk]), _, rfl⟩
  · have hk1 : decide ((k : Int) < s.size) = false := by simpa using hk
    go_enter Tryz.func113, Tryz.ntmps113
    go_wp2
    go_quiet (fail)
    go_wp2
    go_ret
    exact ⟨ret_b (by rw [byteAt_ge hk]; symm; rw [beq_eq_false_iff_ne]; omega), _, rfl⟩
/-- Block b alone may have turned. -/
structure Only (b : Nat) (w w' : World) : Prop where
  os : w'.os = w.os
  tape : w'.tape = w.tape
  output : w'.output = w.output
  size : w'.heap.size = w.heap.size
  rest : ∀ k, k ≠ b → w'.heap[k]? = w.heap[k]?
theorem Only.refl (b : Nat) (w : World) : Only b w w := ⟨rfl, rfl, rfl, rfl, fun _ _ => rfl⟩
theorem Only.trans {b : Nat} {w w1 w2 : World} (h : Only b w w1) (h' : Only b w1 w2) : Only b w w2 :=
  ⟨h'.os.trans h.os, h'.tape.trans h.tape, h'.output.trans h.output, h'.size.trans h.size, fun k hk => (h'.rest k hk).trans (h.rest k hk)⟩
theorem Only.drewN {b : Nat} {w w1 : World} (h : Only b w w1) (n : Nat) : Only b w (w1.drewN n) := ⟨h.os, h.tape, h.output, h.size, h.rest⟩
theorem Only.set {b : Nat} {w w1 : World} (h : Only b w w1) (o : Nat) (v : Value) : Only b w (w1.setCell ⟨b, o, none⟩ v) :=
  ⟨h.os, h.tape, h.output, by simp [World.setCell, h.size], fun k hk => (Below.heap_setCell w1 ⟨b, o, none⟩ v k hk).trans (h.rest k hk)⟩
theorem Only.below {b B : Nat} {w w1 : World} (h : Only b w w1) (hb : B ≤ b) : Below B w w1 := ⟨h.os, h.tape, h.output, Nat.le_of_eq h.size.symm, fun k hk => h.rest k (by omega)⟩
theorem Sc.drewN {w : World} {b k : Nat} {s : ByteArray} (h : Sc w b s k) (n : Nat) : Sc (w.drewN n) b s k := h
theorem Sc.set {w : World} {b k : Nat} {s : ByteArray} (h : Sc w b s k) (j : Nat) : Sc (w.setCell ⟨b, 1, none⟩ (.int .i64 j)) b s j := by
  unfold Sc at *
  simp only [World.setCell, Array.getElem?_modify]
  rw [h]
  simp
theorem Sc.keep {w w1 : World} {b k : Nat} {s : ByteArray} (h : Sc w b s k) (hb : w1.heap[b]? = w.heap[b]?) : Sc w1 b s k := hb.trans h
theorem eat (w : World) (b k : Nat) (s : ByteArray) (c : Int) (hc : 0 ≤ c) (hm : s.size < 4294967281) (h : Sc w b s k) (hk : byteAt s k = c) :
    Calls Tryz.prog 112 #[.pointer (some ⟨b, 0, none⟩), .int .u8 c] w fun e w' => e = .returned (.tuple #[]) ∧ Sc w' b s (k + 1) ∧ Only b w w' := by
  have hlt := lt_of_byteAt hk hc
  have hbb : (byteAt s k == c) = true := by simpa using hk
  have H := Lib.hid hk
  clear hk
  have h0 := h.c0
  have h1 := h.c1
  have hf := h.fr 1
  go_enter Tryz.func112, Tryz.ntmps112
  go_wp2_with (go_at_call 113; refine (sees _ b k s c hc hm ?_).mono ?_; (first | exact h); rintro e w' ⟨rfl, n, rfl⟩; rw [hbb])
  go_end0
  exact ⟨rfl, (h.drewN n).set (k + 1), ((Only.refl b w).drewN n).set 1 _⟩
/-- name() -/
theorem name (w : World) (b k e : Nat) (s : ByteArray) (hm : s.size < 4294967281) (h : Sc w b s k) (h1 : begB (byteAt s k) = true) (hl : k < e ∧ e ≤ k + 32 ∧ e ≤ s.size)
    (hi : ∀ p, k ≤ p → p < e → goB (byteAt s p) = true) (he : goB (byteAt s e) = false) :
    Calls Tryz.prog 114 #[.pointer (some ⟨b, 0, none⟩)] w fun r w' => r = .returned (.string (s.extract k e)) ∧ Sc w' b s e ∧ Only b w w' := by
  have hk : k < s.size := by omega
  have b1 : begB (s[k].toNat : Int) = true := by rw [← byteAt_lt hk]; exact h1
  have HE := Lib.hid he
  have HI := Lib.hid hi
  have hc0 := h.c0
  have hc1 := h.c1
  have k0 : (0 : Int) ≤ k := by omega
  have k1 : decide ((k : Int) < s.size) = true := by simpa using hk
  have k2 : ((k : Int) == s.size) = false := by rw [beq_eq_false_iff_ne]; omega
  clear he hi h1
  go_enter Tryz.func114, Tryz.ntmps114
  go_wp2_with (go_at_call 58; refine (beg _ _).mono ?_; rintro e w' ⟨rfl, rfl⟩; rw [b1])
  go_loopg [56] (e - k) (fun q v w' => ∃ p, k ≤ p ∧ p + q = e ∧ Aside (Sc w' b s p) ∧ Aside (Only b w w'))
  case atStart => exact ⟨k, Nat.le_refl _, by omega, ⟨h⟩, ⟨Only.refl b w⟩⟩
  case round =>
    clear hc0 hc1
    obtain ⟨p, hkp, hj, HS, HO⟩ := hrel
    have c0 := HS.out.c0
    have c1 := HS.out.c1
    have c2 := HS.out.fr 1
    have g0 : (0 : Int) ≤ (p : Nat) := by omega
    by_cases hjm : p < e
    · have hlt : p < s.size := by omega
      have g1 : decide ((p : Int) < s.size) = true := by simpa using hlt
      have g2 : goB (s[p].toNat : Int) = true := by rw [← byteAt_lt hlt]; exact HI.out p hkp hjm
      go_wp2
      go_quiet ((go_at_call 59; exact Calls.quiet_of_same (goesT g2 _)))
      go_wp2
      go_roundg (gk - 1)
      case measure => omega
      case rel => exact ⟨p + 1, by omega, by omega, ⟨(HS.out.drewN _).set (p + 1)⟩, ⟨(HO.out.drewN _).set 1 _⟩⟩
    · obtain rfl : p = e := by omega
      have e1 : IntKind.i64.wrap ((p : Int) - k) = (p : Int) - k := IntWalk.i64_in _ (by omega)
      have e2 : decide ((32 : Int) < (p : Int) - k) = false := by simp; omega
      have e3 : decide ((p : Int) - k > 32) = false := by simp; omega
      by_cases hlt : p < s.size
      · have g1 : decide ((p : Int) < s.size) = true := by simpa using hlt
        have g2 : goB (s[p].toNat : Int) = false := by rw [← byteAt_lt hlt]; exact HE.out
        go_wp2
        go_quiet ((go_at_call 59; exact Calls.quiet_of_same (goesT g2 _)))
        go_wp2
        go_quiet (fail)
        go_wp2
        go_ret
        exact ⟨rfl, (HS.out.drewN _).drewN _, (HO.out.drewN _).drewN _⟩
      · have g1 : decide ((p : Int) < s.size) = false := by simpa using hlt
        go_wp2
        go_quiet (fail)
        go_wp2
        go_quiet (fail)
        go_wp2
        go_ret
        exact ⟨rfl, (HS.out.drewN _).drewN _, (HO.out.drewN _).drewN _⟩
end Go.Proofs.YthjcmodhleoocaaGreatDoor.Z
/- ZName -/
namespace Go.Proofs.YthjcmodhleoocaaGreatDoor.Z
open Go Go.RowKit Go.Lib
set_option linter.unusedVariables false
set_option linter.unusedSimpArgs false
/-- Whether a string is a name. -/
def nmB (s : ByteArray) : Bool := decide (0 < s.size ∧ s.size ≤ 32) && begB (byteAt s 0) && (List.range s.size).all fun p => goB (byteAt s p)
theorem validName (s : ByteArray) (w : World) : Calls Tryz.prog 35 #[.string s] w fun r w' => r = .returned (.bool (nmB s)) ∧ w' = w := by
  by_cases h1 : 0 < s.size ∧ s.size ≤ 32
  · have hk : 0 < s.size := h1.1
    have k1 : decide ((s.size : Int) < 1) = false := by simp; omega
    have k2 : decide ((32 : Int) < s.size) = false := by simp; omega
    cases hb : begB (byteAt s 0) with
    | false =>
      have b1 : begB ((s[0]'hk).toNat : Int) = false := by rw [← byteAt_lt hk]; exact hb
      have hv : nmB s = false := by simp [nmB, hb]
      clear hb
      go_enter Tryz.func35, Tryz.ntmps35
      go_wp2_with (go_at_call 58; refine (beg _ _).mono ?_; rintro e w' ⟨rfl, rfl⟩; rw [b1])
      go_ret
      exact ⟨ret_b hv.symm, rfl⟩
    | true =>
      have b1 : begB ((s[0]'hk).toNat : Int) = true := by rw [← byteAt_lt hk]; exact hb
      have HB := Lib.hid hb
      clear hb
      go_enter Tryz.func35, Tryz.ntmps35
      go_wp2_with (go_at_call 58; refine (beg _ _).mono ?_; rintro e w' ⟨rfl, rfl⟩; rw [b1])
      go_loopg [20] s.size (fun q v w' => ∃ p : Nat, p + q = s.size ∧ v = .int .i64 p ∧ w' = w ∧ Aside (∀ k, k < p → goB (byteAt s k) = true))
      case atStart => exact ⟨0, by omega, rfl, rfl, ⟨fun k hk => by omega⟩⟩
      case round =>
        obtain ⟨p, hp, rfl, rfl, HA⟩ := hrel
        by_cases hlt : p < s.size
        · have p0 : (0 : Int) ≤ p := by omega
          have p1 : decide ((p : Int) < s.size) = true := by simpa using hlt
          cases hg : goB (byteAt s p) with
          | true =>
            have g1 : goB ((s[p]'hlt).toNat : Int) = true := by rw [← byteAt_lt hlt]; exact hg
            have HG := Lib.hid hg
            clear hg
            go_wp2_with (go_at_call 59; refine (goesOn _ _).mono ?_; rintro e w' ⟨rfl, rfl⟩; rw [g1])
            go_roundg (gk - 1)
            case measure => omega
            case rel => exact ⟨p + 1, by omega, rfl, rfl, ⟨fun k hk => by rcases Nat.lt_succ_iff_lt_or_eq.1 hk with h | rfl; exact HA.out k h; exact HG.out⟩⟩
          | false =>
            have g1 : goB ((s[p]'hlt).toNat : Int) = false := by rw [← byteAt_lt hlt]; exact hg
            have hv : nmB s = false := by
              have : (List.range s.size).all (fun p => goB (byteAt s p)) = false := by
                rw [Bool.eq_false_iff]; intro h; have := List.all_eq_true.1 h p (List.mem_range.2 hlt); rw [hg] at this; cases this
              simp [nmB, this]
            clear hg
            go_wp2_with (go_at_call 59; refine (goesOn _ _).mono ?_; rintro e w' ⟨rfl, rfl⟩; rw [g1])
            go_ret
            exact ⟨ret_b hv.symm, rfl⟩
        · have p1 : decide ((p : Int) < s.size) = false := by simpa using hlt
          have hv : nmB s = true := by
            have h2 : (List.range s.size).all (fun p => goB (byteAt s p)) = true := List.all_eq_true.2 (fun k hk => HA.out k (by have := List.mem_range.1 hk; omega))
            simp only [nmB, h2, HB.out, Bool.and_true, decide_eq_true_eq]; exact h1
          go_wp2
          go_ret
          exact ⟨ret_b hv.symm, rfl⟩
  · have hv : nmB s = false := by simp only [nmB, decide_eq_false h1, Bool.false_and]
    by_cases h0 : s.size < 1
    · have k1 : decide ((s.size : Int) < 1) = true := by simp; omega
      go_enter Tryz.func35, Tryz.ntmps35
      go_wp2
      go_ret
      exact ⟨ret_b hv.symm, rfl⟩
    · have k1 : decide ((s.size : Int) < 1) = false := by simp; omega
      have k2 : decide ((32 : Int) < s.size) = true := by simp; omega
      go_enter Tryz.func35, Tryz.ntmps35
      go_wp2
      go_ret
      exact ⟨ret_b hv.symm, rfl⟩
end Go.Proofs.YthjcmodhleoocaaGreatDoor.Z
/- ZUtf -/
namespace Go.Proofs.YthjcmodhleoocaaGreatDoor.Z
open Go.Lib
theorem decodeN_cut (n n' b0 b1 b2 b3 c1 c2 c3 : Nat) (hn : 1 ≤ n) (hnn : n < n') (e1 : 1 < n → c1 = b1) (e2 : 2 < n → c2 = b2) (e3 : 3 < n → c3 = b3)
    (f1 : n = 1 → c1 / 64 ≠ 2) (f2 : n = 2 → c2 / 64 ≠ 2) (f3 : n = 3 → c3 / 64 ≠ 2) : decodeN n' b0 c1 c2 c3 = decodeN n b0 b1 b2 b3 := by
  have k1 : (1 < n' ∧ c1 / 64 = 2) = (1 < n ∧ b1 / 64 = 2) := propext ⟨fun h => by
      rcases Nat.lt_or_ge 1 n with h1 | h1
      · exact ⟨h1, by rw [← e1 h1]; exact h.2⟩
      · exact absurd h.2 (f1 (by omega)), fun h => ⟨by omega, by rw [e1 h.1]; exact h.2⟩⟩
  have k2 : ((1 < n ∧ b1 / 64 = 2) ∧ (2 < n' ∧ c2 / 64 = 2)) = ((1 < n ∧ b1 / 64 = 2) ∧ (2 < n ∧ b2 / 64 = 2)) := propext ⟨fun h => ⟨h.1, by
      rcases Nat.lt_or_ge 2 n with h1 | h1
      · exact ⟨h1, by rw [← e2 h1]; exact h.2.2⟩
      · exact absurd h.2.2 (f2 (by omega))⟩, fun h => ⟨h.1, by omega, by rw [e2 h.2.1]; exact h.2.2⟩⟩
  have k3 : ((1 < n ∧ b1 / 64 = 2) ∧ (2 < n ∧ b2 / 64 = 2) ∧ (3 < n' ∧ c3 / 64 = 2)) = ((1 < n ∧ b1 / 64 = 2) ∧ (2 < n ∧ b2 / 64 = 2) ∧ (3 < n ∧ b3 / 64 = 2)) := propext ⟨fun h => ⟨h.1, h.2.1, by
      rcases Nat.lt_or_ge 3 n with h1 | h1
      · exact ⟨h1, by rw [← e3 h1]; exact h.2.2.2⟩
      · exact absurd h.2.2.2 (f3 (by omega))⟩, fun h => ⟨h.1, h.2.1, by omega, by rw [e3 h.2.2.1]; exact h.2.2.2⟩⟩
  unfold decodeN
  by_cases h1 : 1 < n ∧ b1 / 64 = 2
  · have g1 := e1 h1.1
    subst g1
    have h1' : 1 < n' ∧ c1 / 64 = 2 := ⟨by omega, h1.2⟩
    by_cases h2 : 2 < n ∧ b2 / 64 = 2
    · have g2 := e2 h2.1
      subst g2
      have h2' : 2 < n' ∧ c2 / 64 = 2 := ⟨by omega, h2.2⟩
      by_cases h3 : 3 < n ∧ b3 / 64 = 2
      · have g3 := e3 h3.1
        subst g3
        have h3' : 3 < n' ∧ c3 / 64 = 2 := ⟨by omega, h3.2⟩
        simp only [h1, h1', h2, h2', h3, h3']
      · have h3' : ¬ (3 < n' ∧ c3 / 64 = 2) := fun h => h3 (k3.mp ⟨h1, h2, h⟩).2.2
        simp only [h1, h1', h2, h2', h3, h3', and_false, if_false]
    · have h2' : ¬ (2 < n' ∧ c2 / 64 = 2) := fun h => h2 (k2.mp ⟨h1, h⟩).2
      simp only [h1, h1', h2, h2', false_and, and_false, if_false]
  · have h1' : ¬ (1 < n' ∧ c1 / 64 = 2) := fun h => h1 (k1.mp h)
    simp only [h1, h1', false_and, and_false, if_false]
theorem decodeN_width_le (n b0 b1 b2 b3 : Nat) (hn : 1 ≤ n) : (decodeN n b0 b1 b2 b3).2 ≤ n := by
  unfold decodeN
  repeat' split
  all_goals (simp only; omega)
theorem getD_app_lt (l m : List UInt8) (k : Nat) (h : k < l.length) : (l ++ m).getD k 0 = l.getD k 0 := by
  simp [List.getD, List.getElem?_append_left h]
theorem getD_app_eq (l t : List UInt8) (b : UInt8) (k : Nat) (h : l.length = k) : (l ++ b :: t).getD k 0 = b := by
  subst h; simp [List.getD]
theorem decodeL_cut (l t : List UInt8) (b : UInt8) (hb : b.toNat < 128) (hl : l ≠ []) : decodeL (l ++ b :: t) = decodeL l := by
  have h1 : 1 ≤ l.length := List.length_pos_iff.2 hl
  rw [decodeL_N, decodeL_N, getD_app_lt l _ 0 h1]
  refine decodeN_cut l.length _ _ _ _ _ _ _ _ h1 (by simp) (fun h => by rw [getD_app_lt l _ 1 h]) (fun h => by rw [getD_app_lt l _ 2 h]) (fun h => by rw [getD_app_lt l _ 3 h]) (fun h => ?_) (fun h => ?_) (fun h => ?_)
  all_goals rw [getD_app_eq l t b _ h]; omega
theorem decodeL_width_le (l : List UInt8) (hl : l ≠ []) : (decodeL l).2 ≤ l.length := by
  rw [decodeL_N]; exact decodeN_width_le _ _ _ _ _ (List.length_pos_iff.2 hl)
/-- Cut at a byte below 128: both parts are valid exactly if the whole is. -/
theorem validD_cut (t : List UInt8) (b : UInt8) (hb : b.toNat < 128) : ∀ (n : Nat) (l : List UInt8), l.length ≤ n → validD (l ++ b :: t) = (validD l && validD t) := by
  intro n
  induction n with
  | zero =>
    intro l hl
    obtain rfl : l = [] := List.eq_nil_of_length_eq_zero (by omega)
    rw [List.nil_append, validD_cons b t hb, validD_nil, Bool.true_and]
  | succ n ih =>
    intro l hl
    by_cases hne : l = []
    · subst hne
      rw [List.nil_append, validD_cons b t hb, validD_nil, Bool.true_and]
    · have hw := decodeL_width_le l hne
      have hw1 := decodeL_width l
      rw [validD_step _ (by simp), validD_step l hne, decodeL_cut l t b hb hne]
      by_cases hc : (decodeL l).1 = 65533 ∧ (decodeL l).2 = 1
      · rw [if_pos hc, if_pos hc, Bool.false_and]
      · rw [if_neg hc, if_neg hc, List.drop_append_of_le_length hw]
        exact ih _ (by rw [List.length_drop]; omega)
/-- A byte that no value contains. -/
def badB (b : UInt8) : Bool := decide (b.toNat ≤ 31) || decide (b.toNat = 127)
/-- The reason why a string is not a value; 0: it is one. -/
def vv (s : ByteArray) : Int := if 120 < s.size then 2 else if validD s.data.toList = false then 7 else if s.data.toList.any badB = true then 14 else 0
/-- What holds of the first unit. -/
theorem decodeN_unit (n b0 b1 b2 b3 : Nat) (hn : 1 ≤ n) (h : ¬ ((decodeN n b0 b1 b2 b3).1 = 65533 ∧ (decodeN n b0 b1 b2 b3).2 = 1)) :
    (b0 < 128 ∧ decodeN n b0 b1 b2 b3 = (b0, 1)) ∨ (128 ≤ b0 ∧ 128 ≤ (decodeN n b0 b1 b2 b3).1 ∧ (decodeN n b0 b1 b2 b3).2 ≤ 4 ∧ (1 < (decodeN n b0 b1 b2 b3).2 → 128 ≤ b1) ∧ (2 < (decodeN n b0 b1 b2 b3).2 → 128 ≤ b2) ∧ (3 < (decodeN n b0 b1 b2 b3).2 → 128 ≤ b3)) := by
  unfold decodeN at h ⊢
  repeat' split at h
  all_goals first | (exfalso; exact h ⟨rfl, rfl⟩) | skip
  · rename_i h0
    left
    simp [h0]
  all_goals (have hb_ : ¬ b0 < 128 := by assumption
             rw [if_neg hb_]
             right
             simp_all
             omega)
theorem any_unit (l : List UInt8) (hne : l ≠ []) (h : ¬ ((decodeL l).1 = 65533 ∧ (decodeL l).2 = 1)) :
    l.any badB = ((decide ((decodeL l).1 ≤ 31) || decide ((decodeL l).1 = 127)) || (l.drop (decodeL l).2).any badB) := by
  have h1 : 1 ≤ l.length := List.length_pos_iff.2 hne
  have hw := decodeL_width_le l hne
  have hw1 := decodeL_width l
  have e : l.any badB = ((l.take (decodeL l).2).any badB || (l.drop (decodeL l).2).any badB) := by
    rw [← List.any_append, List.take_append_drop]
  rw [e]
  congr 1
  rw [decodeL_N] at h hw hw1 ⊢
  rcases decodeN_unit _ _ _ _ _ h1 h with ⟨h2, h3⟩ | ⟨h0, hr, h4, k1, k2, k3⟩
  · rw [h3]
    cases l with
    | nil => exact absurd rfl hne
    | cons b t => simp [badB]
  · have : ∀ x ∈ l.take (decodeN l.length (l.getD 0 0).toNat (l.getD 1 0).toNat (l.getD 2 0).toNat (l.getD 3 0).toNat).2, 128 ≤ x.toNat := by
      intro x hx
      obtain ⟨i, hi, rfl⟩ := List.mem_iff_getElem.1 hx
      rw [List.length_take] at hi
      rw [List.getElem_take]
      have hil : i < l.length := by omega
      have eg : l[i] = l.getD i 0 := by simp [List.getD, hil]
      rw [eg]
      match i, hi with
      | 0, _ => exact h0
      | 1, hi => exact k1 (by omega)
      | 2, hi => exact k2 (by omega)
      | 3, hi => exact k3 (by omega)
      | i + 4, hi => omega
    have hf : (l.take (decodeN l.length (l.getD 0 0).toNat (l.getD 1 0).toNat (l.getD 2 0).toNat (l.getD 3 0).toNat).2).any badB = false := by
      rw [List.any_eq_false]
      intro x hx
      have := this x hx
      unfold badB
      simp
      omega
    rw [hf, decide_eq_false (by omega), decide_eq_false (by omega)]
    rfl
end Go.Proofs.YthjcmodhleoocaaGreatDoor.Z
/- ZUnits -/
namespace Go.Proofs.YthjcmodhleoocaaGreatDoor.Z
open Go.RowKit Go.Shelf Go.Lib 
attribute [local go_sem] Oper.semAt_some
/-- A step of a string's iterator, in whatever world. -/
theorem run_next_at {P : Program} (W : World) (b : Nat) (s : ByteArray) (pos : Nat) (ty : TypeId) (hW : W.heap[b]? = some (.stringIter s pos)) (h : pos < s.size) :
    (Instr.next (.pointer (some ⟨b, 0, none⟩)) true ty).run P W = .ok (.tuple #[.bool true, .int .i64 pos, .int .i32 (Utf8.decode s pos).1]) (W.putObj b (.stringIter s (pos + (Utf8.decode s pos).2))) := by
  simp only [Instr.next, getObj, setObj, Sem.run_bind, Sem.run, hW, Result.andThen, h, if_true]
  simp [goInt, World.putObj]
theorem run_next_over {P : Program} (W : World) (b : Nat) (s : ByteArray) (pos : Nat) (ty : TypeId) (hW : W.heap[b]? = some (.stringIter s pos)) (h : ¬ pos < s.size) :
    (Instr.next (.pointer (some ⟨b, 0, none⟩)) true ty).run P W = .ok (.tuple #[.bool false]) W := by
  simp [Instr.next, getObj, Sem.run, hW, h]
theorem width_le (s : ByteArray) (pos : Nat) (h : pos < s.size) : pos + (Utf8.decode s pos).2 ≤ s.size := by
  have := decodeN_width_le (s.size - pos) (s.get! pos).toNat (s.get! (pos + 1)).toNat (s.get! (pos + 2)).toNat (s.get! (pos + 3)).toNat (by omega)
  rw [decode_at]
  omega
/-- The unit at a place, as the program's struct. -/
def unitV (s : ByteArray) (p : Nat) : Value := .agg #[.int .i32 (Utf8.decode s p).1, .int .i64 (p : Int), .int .i64 ((Utf8.decode s p).2 : Int)]
/-- What a round that goes on keeps: the blocks from n₁ on, and block B. -/
def KeepsU (n₁ B : Nat) (W W' : World) : Prop := W.heap.size ≤ W'.heap.size ∧ ∀ k, n₁ ≤ k ∨ k = B → k < W.heap.size → W'.heap[k]? = W.heap[k]?

theorem set2_163 {w : World} {b : Nat} {x y z : Value} (h : w.heap[b]? = some (.cells #[x, y, z] 163 (0, 0))) (v : Value) : (w.setCell ⟨b, 2, none⟩ v).heap[b]? = some (.cells #[x, y, v] 163 (0, 0)) := blk_put h 2 v rfl
theorem set3_163 {w : World} {b : Nat} {x y z : Value} (h : w.heap[b]? = some (.cells #[x, y, z] 163 (0, 0))) (u0 u1 u2 : Value) :
    (((w.setCell ⟨b, 0, none⟩ u0).setCell ⟨b, 1, none⟩ u1).setCell ⟨b, 2, none⟩ u2).heap[b]? = some (.cells #[u0, u1, u2] 163 (0, 0)) := blk_put (blk_put (blk_put h 0 u0 rfl) 1 u1 rfl) 2 u2 rfl
theorem set3_far {w : World} {b k : Nat} (hk : k ≠ b) (u0 u1 u2 : Value) :
    (((w.setCell ⟨b, 0, none⟩ u0).setCell ⟨b, 1, none⟩ u1).setCell ⟨b, 2, none⟩ u2).heap[k]? = w.heap[k]? :=
  (Below.heap_setCell _ _ _ k hk).trans ((Below.heap_setCell _ _ _ k hk).trans (Below.heap_setCell _ _ _ k hk))
theorem set3_below {w : World} {b n : Nat} (hb : n ≤ b) (u0 u1 u2 : Value) : Below n w (((w.setCell ⟨b, 0, none⟩ u0).setCell ⟨b, 1, none⟩ u1).setCell ⟨b, 2, none⟩ u2) :=
  (((Below.refl n w).setCell (p := ⟨b, 0, none⟩) hb u0).setCell (p := ⟨b, 1, none⟩) hb u1).setCell (p := ⟨b, 2, none⟩) hb u2
theorem iterPos_of {w : World} {k : Nat} {s : ByteArray} {p : Nat} (h : w.heap[k]? = some (.stringIter s p)) : w.iterPos k = p := by simp [World.iterPos, h]
set_option maxRecDepth 100000 in
set_option maxHeartbeats 4000000 in
theorem units1_in (F : Fence) (n : Nat) (h132 : F.fn 132) (hro : F.round = none) (hn : 1 ≤ n) (l B n₁ : Nat) (s : ByteArray) (hs : s.size ≤ 9223372036854775807) (J Jx : Nat → World → Prop)
    (hJ : ∀ p W W', J p W → Below n₁ W W' → J p W') (hJx : ∀ p W W', Jx p W → Below n₁ W W' → Jx p W')
    (hY : ∀ p W, J p W → p < s.size → YieldAt F (n - 1) Tryz.prog l #[unitV s p] W fun e W' =>
      (e = .returned (.bool true) ∧ J (p + (Utf8.decode s p).2) W' ∧ KeepsU n₁ B W W') ∨ (e = .returned (.bool false) ∧ Jx p W'))
    (W : World) (hW : n₁ = W.heap.size) (hB : B < n₁) (hBs : W.cell? ⟨B, 0, none⟩ = some (.string s)) (h0 : J 0 W) :
    CallsIn F n Tryz.prog 132 #[.func (.yield l) #[] #[], .pointer (some ⟨B, 0, none⟩)] W fun e W' => (∃ v, e = .returned v) ∧
      ((∃ p, ¬ p < s.size ∧ J p W') ∨ (∃ p, p < s.size ∧ Jx p W')) := by
  refine callsIn_of_wp Tryz.func132 rfl h132 ?_ hro
  simp only [Tryz.ntmps132, List.size_toArray, List.length_cons, List.length_nil, Nat.reduceAdd, Nat.reduceSub, Array.replicate_succ, Array.replicate_zero, List.push_toArray, List.append_toArray, List.nil_append, List.cons_append]
  have hbl : B < W.heap.size := by omega
  subst hW
  have hBs1 : ∀ o, (W.alloc o).cell? ⟨B, 0, none⟩ = some (.string s) := fun o => (World.cell?_of_block (Below.heap_alloc W o B hbl)).trans hBs
  gi_wp2
  gi_loopw [4, 5, 9, 10, 11, 12, 13, 14, 15, 16, 17, 18, 19, 20, 21, 22, 23, 24, 25, 26, 27, 28, 29] (fun (v4 v5 v9 v10 v11 v12 v13 v14 v15 v16 v17 v18 v19 v20 v21 v22 v23 v24 v25 v26 v27 v28 v29 : Value) wr => ∃ (pos : Nat) (r at_ sz : Int), wr.heap[W.heap.size]? = some (.cells #[.int .i32 r, .int .i64 at_, .int .i64 sz] 163 (0, 0)) ∧ wr.heap[W.heap.size + 1]? = some (.stringIter s pos) ∧ wr.cell? ⟨B, 0, none⟩ = some (.string s) ∧
    ((at_ = -1 ∧ pos = 0 ∧ J 0 wr) ∨ (∃ p : Nat, at_ = p ∧ p < s.size ∧ pos = p + (Utf8.decode s p).2 ∧ r = (Utf8.decode s p).1 ∧ J p wr)))
    (fun v4 v5 v9 v10 v11 v12 v13 v14 v15 v16 v17 v18 v19 v20 v21 v22 v23 v24 v25 v26 v27 v28 v29 wr => s.size - wr.iterPos (W.heap.size + 1))
  case atStart =>
    have hb1 := Below.heap_alloc (W.alloc (Obj.cells #[Value.int IntKind.i32 0, Value.int IntKind.i64 (-1), Value.int IntKind.i64 0] 163)) (.stringIter s 0) W.heap.size (by simp)
    refine ⟨0, 0, -1, 0, hb1.trans (blk_new W _), ?_, (World.cell?_of_block (Below.heap_alloc _ _ B (by simp; omega))).trans (hBs1 _), .inl ⟨rfl, rfl, hJ _ _ _ h0 (((Below.refl _ W).alloc (Nat.le_refl _) _).alloc (by simp) _)⟩⟩
    have := blk_new (W.alloc (Obj.cells #[Value.int IntKind.i32 0, Value.int IntKind.i64 (-1), Value.int IntKind.i64 0] 163)) (.stringIter s 0)
    rwa [World.size_alloc] at this
  case round =>
    obtain ⟨pos, r, at_, sz, hu, hit, hBr, hst⟩ := hrel
    by_cases hp : pos < s.size
    · have hnx : ∀ ty, (Instr.next (.pointer (some ⟨W.heap.size + 1, 0, none⟩)) true ty).run Tryz.prog wr = _ := fun ty => run_next_at wr _ s pos ty hit hp
      have hu2 : (wr.putObj (W.heap.size + 1) (.stringIter s (pos + (Utf8.decode s pos).2))).heap[W.heap.size]? = _ := (World.putObj_heap_other (by omega)).trans hu
      obtain ⟨w2, hw2⟩ : ∃ w2, wr.putObj (W.heap.size + 1) (.stringIter s (pos + (Utf8.decode s pos).2)) = w2 := ⟨_, rfl⟩
      rw [hw2] at hnx hu2
      have c21 := (blk_cell hu2 1).trans rfl
      have f22 := blk_frozen hu2 2
      have c22 := (blk_cell hu2 2).trans rfl
      have c30 : ∀ v, (w2.setCell ⟨W.heap.size, 2, none⟩ v).cell? ⟨W.heap.size, 0, none⟩ = some (.int .i32 r) := fun v => blk_cell (set2_163 hu2 v) 0
      have c31 : ∀ v, (w2.setCell ⟨W.heap.size, 2, none⟩ v).cell? ⟨W.heap.size, 1, none⟩ = some (.int .i64 at_) := fun v => blk_cell (set2_163 hu2 v) 1
      have c32 : ∀ v, (w2.setCell ⟨W.heap.size, 2, none⟩ v).cell? ⟨W.heap.size, 2, none⟩ = some v := fun v => blk_cell (set2_163 hu2 v) 2
      have hlt1 := blk_lt hit
      have hb2 : Below W.heap.size wr w2 := by rw [← hw2]; exact (Below.refl _ wr).grown (grownBy_putObj' wr _ _) (by omega) (fun k e => by cases e; omega)
      have hit2 : w2.heap[W.heap.size + 1]? = some (.stringIter s (pos + (Utf8.decode s pos).2)) := by rw [← hw2]; exact World.putObj_heap_same hlt1
      have hB2 : w2.cell? ⟨B, 0, none⟩ = some (.string s) := (World.cell?_of_block (hb2.block B hbl)).trans hBr
      have hmon := width_pos s pos
      have hle := width_le s pos hp
      have ip := iterPos_of hit
      rcases hst with ⟨rfl, rfl, hJ0⟩ | ⟨p, rfl, hps, hpos, rfl, hJp⟩
      · have hu3 := fun v => set2_163 hu2 v
        have f30 : ∀ v, (w2.setCell ⟨W.heap.size, 2, none⟩ v).frozen? ⟨W.heap.size, 0, none⟩ = false := fun v => blk_frozen (hu3 v) 0
        have f31 : ∀ v, (w2.setCell ⟨W.heap.size, 2, none⟩ v).frozen? ⟨W.heap.size, 1, none⟩ = false := fun v => blk_frozen (hu3 v) 1
        have f32 : ∀ v, (w2.setCell ⟨W.heap.size, 2, none⟩ v).frozen? ⟨W.heap.size, 2, none⟩ = false := fun v => blk_frozen (hu3 v) 2
        gi_wp2
        refine ⟨fun _ h => (by cases h), ?_⟩
        gi_wp2
        go_roundw
        case rel =>
          refine ⟨_, _, _, _, set3_163 (hu3 _) _ _ _, (set3_far (by omega) _ _ _).trans ((Below.heap_setCell _ _ _ _ (by simp)).trans hit2), ?_, .inr ⟨0, rfl, hp, rfl, rfl, ?_⟩⟩
          · exact (World.cell?_of_block ((set3_far (by simp; omega) _ _ _).trans (Below.heap_setCell _ _ _ _ (by simp; omega)))).trans hB2
          · exact hJ _ _ _ hJ0 ((hb2.setCell (p := ⟨W.heap.size, 2, none⟩) (Nat.le_refl _) _).trans (set3_below (Nat.le_refl _) _ _ _))
        case measure =>
          rw [ip, iterPos_of ((set3_far (by omega) _ _ _).trans ((Below.heap_setCell _ _ _ _ (by simp)).trans hit2))]
          omega
      · subst hpos
        have e : unitV s p = .agg #[.int .i32 (Utf8.decode s p).1, .int .i64 (p : Int), .int .i64 ((p : Int) + ((Utf8.decode s p).2 : Int) - (p : Int))] := by
          unfold unitV
          have : (p : Int) + ((Utf8.decode s p).2 : Int) - (p : Int) = ((Utf8.decode s p).2 : Int) := by omega
          rw [this]
        obtain ⟨fn, tmps, assign, body, hy, hR⟩ := hY p (w2.setCell ⟨W.heap.size, 2, none⟩ (.int .i64 ((p : Int) + ((Utf8.decode s p).2 : Int) - (p : Int)))) (hJ _ _ _ hJp (hb2.setCell (p := ⟨W.heap.size, 2, none⟩) (Nat.le_refl _) _)) hps
        rw [e] at hy
        have hlt2 := blk_lt hit2
        gi_wp2
        refine hR.mono ?_
        rintro e W3 (⟨rfl, hJ3, hk3⟩ | ⟨rfl, hJx3⟩)
        · have hu3 := (hk3.2 W.heap.size (.inl (Nat.le_refl _)) (by rw [World.size_setCell]; omega)).trans (set2_163 hu2 _)
          have hit3 := (hk3.2 (W.heap.size + 1) (.inl (by omega)) (by rw [World.size_setCell]; omega)).trans ((Below.heap_setCell _ _ _ _ (by simp)).trans hit2)
          have hB3 : W3.cell? ⟨B, 0, none⟩ = some (.string s) := (World.cell?_of_block ((hk3.2 B (.inr rfl) (by rw [World.size_setCell]; omega)).trans (Below.heap_setCell _ _ _ _ (by simp; omega)))).trans hB2
          have f30 := blk_frozen hu3 0
          have f31 := blk_frozen hu3 1
          have f32 := blk_frozen hu3 2
          have d30 := (blk_cell hu3 0).trans rfl
          have d31 := (blk_cell hu3 1).trans rfl
          have d32 := (blk_cell hu3 2).trans rfl
          gi_wp2
          go_roundw
          case rel =>
            refine ⟨_, _, _, _, set3_163 hu3 _ _ _, (set3_far (by omega) _ _ _).trans hit3, (World.cell?_of_block (set3_far (by simp; omega) _ _ _)).trans hB3, .inr ⟨p + (Utf8.decode s p).2, by omega, hp, rfl, rfl, ?_⟩⟩
            exact hJ _ _ _ hJ3 (set3_below (Nat.le_refl _) _ _ _)
          case measure =>
            rw [ip, iterPos_of ((set3_far (by omega) _ _ _).trans hit3)]
            omega
        · gi_wp2
          refine bodyPost_ret (results_none rfl _ _ _) rfl ?_
          exact ⟨⟨_, rfl⟩, .inr ⟨p, hps, hJx3⟩⟩
    · have hnx : ∀ ty, (Instr.next (.pointer (some ⟨W.heap.size + 1, 0, none⟩)) true ty).run Tryz.prog wr = _ := fun ty => run_next_over wr _ s pos ty hit hp
      have c21 := (blk_cell hu 1).trans rfl
      have f22 := blk_frozen hu 2
      have c22 := (blk_cell hu 2).trans rfl
      have c30 : ∀ v, (wr.setCell ⟨W.heap.size, 2, none⟩ v).cell? ⟨W.heap.size, 0, none⟩ = some (.int .i32 r) := fun v => blk_cell (set2_163 hu v) 0
      have c31 : ∀ v, (wr.setCell ⟨W.heap.size, 2, none⟩ v).cell? ⟨W.heap.size, 1, none⟩ = some (.int .i64 at_) := fun v => blk_cell (set2_163 hu v) 1
      have c32 : ∀ v, (wr.setCell ⟨W.heap.size, 2, none⟩ v).cell? ⟨W.heap.size, 2, none⟩ = some v := fun v => blk_cell (set2_163 hu v) 2
      rcases hst with ⟨rfl, rfl, hJ0⟩ | ⟨p, rfl, hps, hpos, rfl, hJp⟩
      · gi_wp2
        go_end0
        exact ⟨⟨_, rfl⟩, .inl ⟨0, hp, hJ _ _ _ hJ0 ((Below.refl _ _).setCell (p := ⟨W.heap.size, 2, none⟩) (Nat.le_refl _) _)⟩⟩
      · have hsz : pos = s.size := by have := width_le s p hps; omega
        have hw0 := width_pos s p
        have e : unitV s p = .agg #[.int .i32 (Utf8.decode s p).1, .int .i64 (p : Int), .int .i64 ((s.size : Int) - (p : Int))] := by
          unfold unitV
          have : (s.size : Int) - (p : Int) = ((Utf8.decode s p).2 : Int) := by omega
          rw [this]
        obtain ⟨fn, tmps, assign, body, hy, hR⟩ := hY p (wr.setCell ⟨W.heap.size, 2, none⟩ (.int .i64 ((s.size : Int) - (p : Int)))) (hJ _ _ _ hJp ((Below.refl _ _).setCell (p := ⟨W.heap.size, 2, none⟩) (Nat.le_refl _) _)) hps
        rw [e] at hy
        gi_wp2
        refine hR.mono ?_
        rintro e W3 (⟨rfl, hJ3, hk3⟩ | ⟨rfl, hJx3⟩)
        · gi_wp2
          go_end0
          exact ⟨⟨_, rfl⟩, .inl ⟨p + (Utf8.decode s p).2, by omega, hJ3⟩⟩
        · gi_wp2
          go_end0
          exact ⟨⟨_, rfl⟩, .inr ⟨p, hps, hJx3⟩⟩
end Go.Proofs.YthjcmodhleoocaaGreatDoor.Z
/- ZUnitValid -/
namespace Go.Proofs.YthjcmodhleoocaaGreatDoor.Z
open Go Go.RowKit
def unit_valid.f (a0_0 : Int) (a0_1 : Int) (a0_2 : Int) : Option (Bool) := if a0_0 = 65533 then (some (a0_2 == 3)) else (some true)
theorem unit_valid.calls (a0_0 : Int) (a0_1 : Int) (a0_2 : Int) (r : Bool) (w : World) (h : unit_valid.f a0_0 a0_1 a0_2 = some r) :
    Calls Tryz.prog 127 #[.agg #[.int .i32 a0_0, .int .i64 a0_1, .int .i64 a0_2]] w fun e w' => e = .returned (.bool r) ∧ Below w.heap.size w w' := by
  unfold unit_valid.f at h
  by_cases c : a0_0 = 65533
  · rw [if_pos c] at h
    obtain rfl := Option.some.inj h
    subst c
    go_enter Tryz.func127, Tryz.ntmps127
    go_wp2
    go_ret
    exact ⟨rfl, (Below.refl _ _).alloc (Nat.le_refl _) _⟩
  · rw [if_neg c] at h
    obtain rfl := Option.some.inj h
    have c0 : (a0_0 != 65533) = true := bne_iff_ne.mpr c
    go_enter Tryz.func127, Tryz.ntmps127
    go_wp2
    go_ret
    exact ⟨rfl, (Below.refl _ _).alloc (Nat.le_refl _) _⟩
end Go.Proofs.YthjcmodhleoocaaGreatDoor.Z
/- ZCpValid -/
namespace Go.Proofs.YthjcmodhleoocaaGreatDoor.Z
open Go.RowKit Go.Shelf Go.Lib 
attribute [local go_sem] Oper.semAt_some
set_option maxHeartbeats 1000000 in
theorem units_in (F : Fence) (n : Nat) (h126 : F.fn 126) (hro : F.round = none) (s : ByteArray) (w : World) :
    CallsIn F n Tryz.prog 126 #[.string s] w fun e w' => e = .returned (.func (.func 132) #[] #[.pointer (some ⟨w.heap.size, 0, none⟩)]) ∧ w' = w.alloc (.cells #[.string s] 9) := by
  refine callsIn_of_wp Tryz.func126 rfl h126 ?_ hro
  simp only [Tryz.ntmps126, List.size_toArray, List.length_cons, List.length_nil, Nat.reduceAdd, Nat.reduceSub, Array.replicate_succ, Array.replicate_zero, List.push_toArray, List.append_toArray, List.nil_append, List.cons_append]
  gi_wp2
  go_ret
  exact ⟨rfl, rfl⟩
/-- How the body of a round may be left. -/
def roundU (Kp : World → World → Prop) (I : World → Prop) (Ix : World → Prop) (W : World) : Exit → Act → World → Prop
  | .normal, _, W' => Kp W W' ∧ I W'
  | .ret, _, W' => Kp W W' ∧ Ix W'
  | _, _, _ => False
set_option maxHeartbeats 1000000 in
/-- A loop over codepoint.units(s): what the caller owes. -/
theorem wpIn_units {F : Fence} {n : Nat} {g : Operand} {ps : Array Tmp} {assign body : Code} {Q : Exit → Act → World → Prop} {a : Act} {w : World} (h132 : F.fn 132) (hro : F.round = none) (hn : 2 ≤ n) {B : Nat} (hps : ps.size = 1)
    (hg : a.eval g = .func (.func 132) #[] #[.pointer (some ⟨B, 0, none⟩)]) (s : ByteArray) (hs : s.size ≤ 9223372036854775807) (hB : w.cell? ⟨B, 0, none⟩ = some (.string s))
    (I Ix : Nat → World → Prop) (hI : ∀ p W W', I p W → Below w.heap.size W W' → I p W') (hIx : ∀ p W W', Ix p W → Below w.heap.size W W' → Ix p W') (h0 : I 0 w)
    (A : Nat → Act → World → Prop) (hA : ∀ p a' W o, A p a' W → A p a' (W.putObj (w.heap.size + 1) o))
    (hassign : ∀ (l p : Nat) (W : World) (K : Act → World → Prop), I p W → p < s.size → w.heap.size + 2 ≤ W.heap.size → (∀ a' W', KeepsU w.heap.size B W W' → A p a' W' → I p W' → K a' W') →
      assign.wpIn (F.inRound l) (n - 1 - 1) Tryz.prog (Exit.then K (fun _ _ _ => False)) { tmps := (ps.zip #[unitV s p]).foldl (fun t (p, v) => t.setIfInBounds p v) a.tmps, defers := [] } W)
    (hbody : ∀ (l p : Nat) (a' : Act) (W : World), I p W → p < s.size → A p a' W → body.wpIn (F.inRound l) (n - 1 - 1) Tryz.prog (roundU (KeepsU w.heap.size B) (I (p + (Utf8.decode s p).2)) (Ix p) W) a' W)
    (hdone : ∀ (p : Nat) (W : World), ¬ p < s.size → I p W → W.heap[w.heap.size]? = some (.deferred (some [])) → Q .normal { a with defers := { target := .collected w.heap.size, args := #[] } :: a.defers } W)
    (hstop : ∀ (p : Nat) (W : World), p < s.size → Ix p W → W.heap[w.heap.size]? = some (.deferred (some [])) → Code.ret.wpIn F n Tryz.prog Q { a with defers := { target := .collected w.heap.size, args := #[] } :: a.defers } W) :
    (Code.rangeFunc g ps assign body).wpIn F n Tryz.prog Q a w := by
  have hbl := World.block_lt_of_cell? w _ hB
  simp only at hbl
  refine wpIn_rangeFunc ?_
  intro fn hfn
  rw [hro]
  obtain ⟨rec, hrec⟩ : ∃ rec : LoopState → Option Code → Loop, rec = fun st pe => { state := st, pending := pe, fn, tmps := a.tmps, params := ps, assign, body, defers := w.heap.size } := ⟨_, rfl⟩
  obtain ⟨W1, hW1⟩ : ∃ W1, (w.alloc (.deferred (some []))).alloc (.loop (rec .ready none)) = W1 := ⟨_, rfl⟩
  have hs1 : W1.heap.size = w.heap.size + 2 := by rw [← hW1]; simp
  have hL1 : W1.heap[w.heap.size + 1]? = some (.loop (rec .ready none)) := by
    rw [← hW1]; have := World.alloc_heap_new (w.alloc (.deferred (some []))) (.loop (rec .ready none)); rwa [World.size_alloc] at this
  have hK1 : W1.heap[w.heap.size]? = some (.deferred (some [])) := by
    rw [← hW1]; exact (Below.heap_alloc _ _ _ (by simp)).trans (World.alloc_heap_new w _)
  have hb1 : Below w.heap.size w W1 := by rw [← hW1]; exact ((Below.refl _ w).alloc (Nat.le_refl _) _).alloc (by simp) _
  have put : ∀ (W : World) (o o' : Obj), W.heap[w.heap.size + 1]? = some o → Below w.heap.size W (W.putObj (w.heap.size + 1) o') := fun W o o' h =>
    (Below.refl _ W).grown (grownBy_putObj' W _ o') (by have := blk_lt h; omega) (fun k e => by cases e; omega)
  refine ⟨w.heap.size + 1, [{ target := .collected w.heap.size, args := #[] }], W1, { target := .fn (.func 132) #[.pointer (some ⟨B, 0, none⟩)], args := #[.func (.yield (w.heap.size + 1)) #[] #[]] }, W1, 132,
    #[.func (.yield (w.heap.size + 1)) #[] #[], .pointer (some ⟨B, 0, none⟩)], W1, ?_, ?_, ?_, ?_, fun _ => by omega, ?_⟩
  · rw [← hW1, hrec]; exact run_enterLoop_outer _ _ _ _ _
  · simp only [resolve, hg]; simp [go_sem]
  · intro f' hf'; simp [Target.leads] at hf'; subst hf'; exact h132
  · simp [invoke, go_sem]
  · refine (units1_in F (n - 1) h132 hro (by omega) (w.heap.size + 1) B W1.heap.size s hs
      (fun p W => I p W ∧ W.heap[w.heap.size + 1]? = some (.loop (rec .ready none)) ∧ W.heap[w.heap.size]? = some (.deferred (some [])))
      (fun p W => Ix p W ∧ W.heap[w.heap.size + 1]? = some (.loop (rec .done (some .ret))) ∧ W.heap[w.heap.size]? = some (.deferred (some [])))
      (fun p W W' h hb => ⟨hI p W W' h.1 (hb.mono (by omega)), (hb.block _ (by omega)).trans h.2.1, (hb.block _ (by omega)).trans h.2.2⟩)
      (fun p W W' h hb => ⟨hIx p W W' h.1 (hb.mono (by omega)), (hb.block _ (by omega)).trans h.2.1, (hb.block _ (by omega)).trans h.2.2⟩)
      ?_ W1 rfl (by omega) ((World.cell?_of_block (hb1.block B (by omega))).trans hB) ⟨hI 0 w W1 h0 hb1, hL1, hK1⟩).mono ?_
    · rintro p W ⟨hi, hl, hk⟩ hp
      have hlt := blk_lt hl
      have hy := run_yield (P := Tryz.prog) (args := #[unitV s p]) hl (by rw [hrec]; exact hps.symm)
      rw [hrec] at hy
      refine ⟨fn, _, assign, body, hy, roundIn_of_wpIn hfn (hassign _ p W _ hi hp (by omega) ?_)⟩
      intro a' Wa hka hax hia
      have hla := (hka.2 _ (.inl (by omega)) hlt).trans hl
      have hkka := (hka.2 _ (.inl (by omega)) (by omega)).trans hk
      have hlta := blk_lt hla
      refine ⟨_, run_beginRound hla (by rw [hrec]), ?_⟩
      have hl2 : (Wa.putObj (w.heap.size + 1) (.loop { rec .ready none with state := .busy })).heap[w.heap.size + 1]? = some (.loop { rec .ready none with state := .busy }) := World.putObj_heap_same hlta
      have hk2 : (Wa.putObj (w.heap.size + 1) (.loop { rec .ready none with state := .busy })).heap[w.heap.size]? = some (.deferred (some [])) := (World.putObj_heap_other (by omega)).trans hkka
      refine wpIn_mono (hbody _ p a' _ (hI _ _ _ hia (put _ _ _ hla)) hp (hA _ _ _ _ hax)) ?_
      have kp : ∀ (W3 : World) (o : Obj), KeepsU w.heap.size B (Wa.putObj (w.heap.size + 1) (.loop { rec .ready none with state := .busy })) W3 → KeepsU W1.heap.size B W (W3.putObj (w.heap.size + 1) o) := fun W3 o h3 =>
        ⟨by have := hka.1; have := h3.1; simp only [World.putObj_size] at *; omega, fun k hk hkw => by
          have k1 : k ≠ w.heap.size + 1 := by omega
          have k2 : w.heap.size ≤ k ∨ k = B := by omega
          exact (World.putObj_heap_other k1).trans ((h3.2 k k2 (by have := hka.1; rw [World.putObj_size]; omega)).trans ((World.putObj_heap_other k1).trans (hka.2 k k2 hkw)))⟩
      rintro e a3 W3 hq
      cases e with
      | normal =>
        obtain ⟨hk3, hi3⟩ := hq
        have hl3 := (hk3.2 (w.heap.size + 1) (.inl (by omega)) (by rw [World.putObj_size]; omega)).trans hl2
        have hd3 := (hk3.2 w.heap.size (.inl (by omega)) (by rw [World.putObj_size]; omega)).trans hk2
        have hr := run_endRound (P := Tryz.prog) none hl3
        refine ⟨_, _, hr, .inl ⟨rfl, ⟨hI _ _ _ hi3 (put _ _ _ hl3), ?_, (World.putObj_heap_other (by omega)).trans hd3⟩, kp W3 _ hk3⟩⟩
        have := World.putObj_heap_same (w := W3) (o := .loop (rec .ready none)) (blk_lt hl3)
        rw [hrec] at this ⊢; exact this
      | ret =>
        obtain ⟨hk3, hi3⟩ := hq
        have hl3 := (hk3.2 (w.heap.size + 1) (.inl (by omega)) (by rw [World.putObj_size]; omega)).trans hl2
        have hd3 := (hk3.2 w.heap.size (.inl (by omega)) (by rw [World.putObj_size]; omega)).trans hk2
        have hr := run_endRound (P := Tryz.prog) (some .ret) hl3
        refine ⟨_, _, hr, .inr ⟨rfl, ⟨hIx _ _ _ hi3 (put _ _ _ hl3), ?_, (World.putObj_heap_other (by omega)).trans hd3⟩⟩⟩
        have := World.putObj_heap_same (w := W3) (o := .loop (rec .done (some .ret))) (blk_lt hl3)
        rw [hrec] at this ⊢; exact this
      | exit id => exact hq.elim
      | goto t => exact hq.elim
      | panic ch => exact hq.elim
      | outgrown => exact hq.elim
    · rintro e W2 ⟨⟨v, rfl⟩, (⟨p, hp, hi, hl, hk⟩ | ⟨p, hp, hi, hl, hk⟩)⟩
      · exact ⟨none, _, by have := run_endLoop (P := Tryz.prog) hl (by rw [hrec]; simp); rw [hrec] at this; exact this, hdone p _ hp (hI _ _ _ hi (put _ _ _ hl)) ((World.putObj_heap_other (by omega)).trans hk)⟩
      · exact ⟨some .ret, _, by have := run_endLoop (P := Tryz.prog) hl (by rw [hrec]; simp); rw [hrec] at this; exact this, hstop p _ hp (hIx _ _ _ hi (put _ _ _ hl)) ((World.putObj_heap_other (by omega)).trans hk)⟩
theorem decodeN_fffd (n b0 b1 b2 b3 : Nat) (h : (decodeN n b0 b1 b2 b3).1 = 65533) : (decodeN n b0 b1 b2 b3).2 = 1 ∨ (decodeN n b0 b1 b2 b3).2 = 3 := by
  revert h
  unfold decodeN
  repeat' split
  all_goals (intro h; first | exact .inl rfl | exact .inr rfl | (exfalso; simp only at h; omega))
/-- What (unit).valid says of the unit at a place. -/
def okU (s : ByteArray) (p : Nat) : Bool := !decide ((Utf8.decode s p).1 = 65533 ∧ (Utf8.decode s p).2 = 1)
theorem unit_valid_f (s : ByteArray) (p : Nat) : unit_valid.f ((Utf8.decode s p).1 : Int) (p : Int) ((Utf8.decode s p).2 : Int) = some (okU s p) := by
  have h := decodeN_fffd (s.size - p) (s.get! p).toNat (s.get! (p + 1)).toNat (s.get! (p + 2)).toNat (s.get! (p + 3)).toNat
  rw [← decode_at] at h
  unfold unit_valid.f okU
  by_cases h1 : (Utf8.decode s p).1 = 65533
  · rw [if_pos (by omega)]
    rcases h h1 with h2 | h2 <;> simp [h1, h2]
  · rw [if_neg (by omega)]
    simp [h1]
theorem drop_ne (s : ByteArray) (p : Nat) (hp : p < s.size) : s.data.toList.drop p ≠ [] := by
  intro h
  have := congrArg List.length h
  rw [List.length_drop, ← size_eq] at this
  simp at this
  omega
theorem valid_step_at (s : ByteArray) (p : Nat) (hp : p < s.size) : validD (s.data.toList.drop p) = (okU s p && validD (s.data.toList.drop (p + (Utf8.decode s p).2))) := by
  rw [validD_step _ (drop_ne s p hp), decodeL_drop]
  unfold okU
  by_cases h : (Utf8.decode s p).1 = 65533 ∧ (Utf8.decode s p).2 = 1
  · rw [if_pos h]; simp [h]
  · rw [if_neg h, List.drop_drop]; simp [h]
theorem drop_end (s : ByteArray) (p : Nat) (hp : ¬ p < s.size) : s.data.toList.drop p = [] := List.drop_eq_nil_of_le (by rw [← size_eq]; omega)
set_option maxRecDepth 100000 in
set_option maxHeartbeats 4000000 in
theorem cpValid_in (n : Nat) (hn : 3 ≤ n) (s : ByteArray) (hs : s.size ≤ 9223372036854775807) (w : World) :
    CallsIn Fence.wide n Tryz.prog 117 #[.string s] w fun e w' => e = .returned (.bool (validD s.data.toList)) ∧ Below w.heap.size w w' := by
  have h1 : 1 ≤ n := by omega
  refine callsIn_of_wp_marks Tryz.func117 rfl trivial ?_ rfl
  simp only [Tryz.ntmps117, List.size_toArray, List.length_cons, List.length_nil, Nat.reduceAdd, Nat.reduceSub, Array.replicate_succ, Array.replicate_zero, List.push_toArray, List.append_toArray, List.nil_append, List.cons_append]
  gi_wp2_with (refine ⟨trivial, ?_⟩; gi_at_call 126; refine (units_in Fence.wide (n - 1) trivial rfl _ _).mono ?_; rintro e w' ⟨rfl, rfl⟩)
  obtain ⟨W0, hW0⟩ : ∃ W0, (w.alloc (.cells #[.bool false] 4)).alloc (.cells #[.string s] 9) = W0 := ⟨_, rfl⟩
  have hs0 : W0.heap.size = w.heap.size + 2 := by rw [← hW0]; simp
  have hB0 : W0.heap[w.heap.size]? = some (.cells #[.bool false] 4 (0, 0)) := by rw [← hW0]; exact (Below.heap_alloc _ _ _ (by simp)).trans (blk_new w _)
  have hB1 : W0.heap[w.heap.size + 1]? = some (.cells #[.string s] 9 (0, 0)) := by
    rw [← hW0]; have := blk_new (w.alloc (.cells #[.bool false] 4)) (.cells #[.string s] 9); rwa [World.size_alloc] at this
  have hb0 : Below w.heap.size w W0 := by rw [← hW0]; exact ((Below.refl _ w).alloc (Nat.le_refl _) _).alloc (by simp) _
  rw [hW0]
  refine wpIn_units (F := Fence.wide) (n := n) (B := w.heap.size + 1) trivial rfl (by omega) rfl rfl s hs (blk_cell hB1 0)
    (fun p W => Below w.heap.size w W ∧ W.heap[w.heap.size]? = some (.cells #[.bool false] 4 (0, 0)) ∧ validD (s.data.toList.drop p) = validD s.data.toList)
    (fun p W => Below w.heap.size w W ∧ W.heap[w.heap.size]? = some (.cells #[.bool false] 4 (0, 0)) ∧ validD s.data.toList = false)
    (fun p W W' h hb => ⟨h.1.trans (hb.mono (by omega)), (hb.block _ (by omega)).trans h.2.1, h.2.2⟩)
    (fun p W W' h hb => ⟨h.1.trans (hb.mono (by omega)), (hb.block _ (by omega)).trans h.2.1, h.2.2⟩)
    ⟨hb0, hB0, rfl⟩
    (fun p a' W => ∃ Bx, Bx ≠ W0.heap.size + 1 ∧ w.heap.size < Bx ∧ Bx ≠ w.heap.size + 1 ∧ W.heap[Bx]? = some (.cells #[.int .i32 (Utf8.decode s p).1, .int .i64 (p : Int), .int .i64 ((Utf8.decode s p).2 : Int)] 163 (0, 0)) ∧
      a' = { tmps := #[.string s, undef, .pointer (some ⟨w.heap.size, 0, none⟩), .pointer (some ⟨Bx, 0, none⟩), .string s, .func (.func 132) #[] #[.pointer (some ⟨w.heap.size + 1, 0, none⟩)], unitV s p, undef, undef, undef], defers := [] })
    (fun p a' W o h => by obtain ⟨Bx, h1, h2, h3, h4, h5⟩ := h; exact ⟨Bx, h1, h2, h3, (World.putObj_heap_other h1).trans h4, h5⟩) ?assign ?body ?done ?stop
  case assign =>
    intro l p W K hi hp hsz hK
    unfold unitV
    gi_wp2
    refine hK _ _ ⟨by simp, fun k _ hk => Below.heap_alloc W _ k hk⟩ ⟨W.heap.size, by omega, by omega, by omega, blk_new W _, rfl⟩ ⟨hi.1.alloc hi.1.size _, (Below.heap_alloc W _ _ (by omega)).trans hi.2.1, hi.2.2⟩
  case body =>
    rintro l p a' W ⟨hb, hr, hv⟩ hp ⟨Bx, k1, k2, k3, h4, rfl⟩
    have h11 : 1 ≤ n - 1 - 1 := by omega
    have c0 := (blk_cell h4 0).trans rfl
    have c1 := (blk_cell h4 1).trans rfl
    have c2 := (blk_cell h4 2).trans rfl
    have hvs := valid_step_at s p hp
    have hu := unit_valid_f s p
    cases hok : okU s p with
    | true =>
      rw [hok] at hvs hu
      rw [Bool.true_and] at hvs
      gi_wp2_with (refine ⟨trivial, ?_⟩; gi_at_call 127; refine (CallsIn.inRound l (callsIn_wide.2 (unit_valid.calls _ _ _ _ _ hu))).mono ?_; rintro e w' ⟨rfl, hb'⟩)
      exact ⟨⟨hb'.size, fun k _ hk => hb'.block k hk⟩, hb.trans (hb'.mono hb.size), (hb'.block _ (blk_lt hr)).trans hr, by rw [← hvs, hv]⟩
    | false =>
      rw [hok] at hvs hu
      rw [Bool.false_and, hv] at hvs
      gi_wp2_with (refine ⟨trivial, ?_⟩; gi_at_call 127; refine (CallsIn.inRound l (callsIn_wide.2 (unit_valid.calls _ _ _ _ _ hu))).mono ?_; rintro e w' ⟨rfl, hb'⟩; have hr' := (hb'.block _ (blk_lt hr)).trans hr; have hc := (blk_cell hr' 0).trans rfl; have hf := blk_frozen hr' 0)
      refine ⟨⟨by rw [World.size_setCell]; exact hb'.size, fun k hk hkw => (Below.heap_setCell _ _ _ k (by simp; omega)).trans (hb'.block k hkw)⟩, (hb.trans (hb'.mono hb.size)).setCell (p := ⟨w.heap.size, 0, none⟩) (Nat.le_refl _) _, blk_put hr' 0 _ rfl, hvs⟩
  case done =>
    rintro p W hp ⟨hb, hr, hv⟩ hK
    rw [drop_end s p hp, validD_nil] at hv
    replace hv := hv.symm
    have hc := (blk_cell hr 0).trans rfl
    have hf := blk_frozen hr 0
    gi_wp2
    have hr1 := blk_put hr 0 (.bool true) rfl
    have hK1 := (Below.heap_setCell W ⟨w.heap.size, 0, none⟩ (.bool true) W0.heap.size (by simp; omega)).trans hK
    refine ⟨by simp, .inl ⟨_, _, rfl, run_takeDeferred hK1, ?_⟩⟩
    have hr2 := (World.putObj_heap_other (o := Obj.deferred none) (r := W0.heap.size) (k := w.heap.size) (by omega)).trans hr1
    have hc2 := (blk_cell hr2 0).trans rfl
    refine ⟨.bool true, ?_, by rw [hv], ?_⟩
    · simp [results, Tryz.f117, go_sem, hc2]
    · exact (hb.setCell (p := ⟨w.heap.size, 0, none⟩) (Nat.le_refl _) _).grown (grownBy_putObj' _ _ _) (by rw [World.size_setCell]; exact hb.size) (fun k e => by cases e; omega)
  case stop =>
    rintro p W hp ⟨hb, hr, hv⟩ hK
    gi_wp2
    refine ⟨by simp, .inl ⟨_, _, rfl, run_takeDeferred hK, ?_⟩⟩
    have hr2 := (World.putObj_heap_other (o := Obj.deferred none) (r := W0.heap.size) (k := w.heap.size) (by omega)).trans hr
    have hc2 := (blk_cell hr2 0).trans rfl
    refine ⟨.bool false, ?_, by rw [hv], ?_⟩
    · simp [results, Tryz.f117, go_sem, hc2]
    · exact hb.grown (grownBy_putObj' _ _ _) hb.size (fun k e => by cases e; omega)
/-! ### codepoint_Valid: function 36 -/
def codepoint_Valid.f (a0 : ByteArray) : Option (Bool) := if a0.size ≤ 9223372036854775807 then some (Lib.validD a0.data.toList) else none
theorem codepoint_Valid.calls (a0 : ByteArray) (r : Bool) (w : World) (h : codepoint_Valid.f a0 = some r) :
    Calls Tryz.prog 117 #[.string a0] w fun e w' => e = .returned (.bool r) ∧ Below w.heap.size w w' := by
  unfold codepoint_Valid.f at h
  by_cases hs : a0.size ≤ 9223372036854775807
  · rw [if_pos hs] at h
    obtain rfl := Option.some.inj h
    exact callsIn_wide.1 (cpValid_in 3 (Nat.le_refl _) a0 hs w)
  · rw [if_neg hs] at h
    cases h
end Go.Proofs.YthjcmodhleoocaaGreatDoor.Z
/- ZMk -/
namespace Go.Proofs.YthjcmodhleoocaaGreatDoor.Z
open Go.RowKit Go.Lib 
theorem any_step_at (s : ByteArray) (p : Nat) (hp : p < s.size) (hv : validD (s.data.toList.drop p) = true) :
    (s.data.toList.drop p).any badB = ((decide ((Utf8.decode s p).1 ≤ 31) || decide ((Utf8.decode s p).1 = 127)) || (s.data.toList.drop (p + (Utf8.decode s p).2)).any badB) := by
  have h := any_unit (s.data.toList.drop p) (drop_ne s p hp) (fun hc => by
    rw [validD_step _ (drop_ne s p hp), if_pos hc] at hv; cases hv)
  rw [decodeL_drop, List.drop_drop] at h
  exact h
set_option maxRecDepth 100000 in
set_option maxHeartbeats 4000000 in
theorem mkValue_calls (s : ByteArray) (w : World) :
    Calls Tryz.prog 98 #[.string s] w fun e w' => e = .returned (.int .i64 (vv s)) ∧ Below w.heap.size w w' := by
  have HB := Below.refl w.heap.size w
  by_cases h1 : 120 < s.size
  · have h1b : decide ((120 : Int) < (s.size : Int)) = true := decide_eq_true (by omega)
    have hv : vv s = 2 := by unfold vv; rw [if_pos h1]
    go_enter Tryz.func98, Tryz.ntmps98
    go_wp2
    go_ret
    exact ⟨by rw [hv]; rfl, HB⟩
  · have h1b : decide ((120 : Int) < (s.size : Int)) = false := decide_eq_false (by omega)
    have hs : s.size ≤ 9223372036854775807 := by omega
    have hf : codepoint_Valid.f s = some (validD s.data.toList) := by unfold codepoint_Valid.f; rw [if_pos hs]
    cases hvd : validD s.data.toList with
    | false =>
      have hv : vv s = 7 := by unfold vv; rw [if_neg h1, if_pos hvd]
      rw [hvd] at hf
      go_enter Tryz.func98, Tryz.ntmps98
      go_wp2_with (go_at_call 117; refine (codepoint_Valid.calls _ _ _ hf).mono ?_; rintro e w' ⟨rfl, hb⟩)
      go_ret
      exact ⟨by rw [hv]; rfl, hb⟩
    | true =>
      have hv : vv s = if s.data.toList.any badB = true then 14 else 0 := by unfold vv; rw [if_neg h1, if_neg (by simp [hvd])]
      rw [hvd] at hf
      go_enter Tryz.func98, Tryz.ntmps98
      go_wp2_with (go_at_call 117; refine (codepoint_Valid.calls _ _ _ hf).mono ?_; rintro e w1 ⟨rfl, hb⟩)
      have hs1 := hb.size
      go_loopw [4] (fun (_ : Value) wr => ∃ (pos : Nat), wr.heap[w1.heap.size]? = some (.stringIter s pos) ∧ Below w.heap.size w wr ∧ pos ≤ s.size ∧ validD (s.data.toList.drop pos) = true ∧ s.data.toList.any badB = (s.data.toList.drop pos).any badB)
        (fun _ wr => s.size - wr.iterPos w1.heap.size)
      case atStart => exact ⟨0, blk_new w1 _, hb.alloc hs1 _, Nat.zero_le _, hvd, rfl⟩
      case round =>
        obtain ⟨pos, hit, HB1, hle, hvp, hbad⟩ := hrel
        have ip := iterPos_of hit
        have hlt1 := blk_lt hit
        by_cases hp : pos < s.size
        · have hnx : ∀ ty, (Instr.next (.pointer (some ⟨w1.heap.size, 0, none⟩)) true ty).run Tryz.prog wr = _ := fun ty => run_next_at wr _ s pos ty hit hp
          have hb2 : Below w.heap.size w (wr.putObj w1.heap.size (.stringIter s (pos + (Utf8.decode s pos).2))) := HB1.grown (grownBy_putObj' wr _ _) HB1.size (fun k e => by cases e; exact hs1)
          have hit2 : (wr.putObj w1.heap.size (.stringIter s (pos + (Utf8.decode s pos).2))).heap[w1.heap.size]? = some (.stringIter s (pos + (Utf8.decode s pos).2)) := World.putObj_heap_same hlt1
          have ip2 := iterPos_of hit2
          have hw0 := width_pos s pos
          have hw1 := width_le s pos hp
          have hstep := any_step_at s pos hp hvp
          have hvs := valid_step_at s pos hp
          rw [hvp] at hvs
          have hv2 : validD (s.data.toList.drop (pos + (Utf8.decode s pos).2)) = true := by
            cases h : validD (s.data.toList.drop (pos + (Utf8.decode s pos).2)) with
            | true => rfl
            | false => rw [h, Bool.and_false] at hvs; cases hvs
          clear hvs
          by_cases k1 : (Utf8.decode s pos).1 ≤ 31
          · have k1b : decide (((Utf8.decode s pos).1 : Int) ≤ 31) = true := decide_eq_true (by omega)
            have hv14 : vv s = 14 := by rw [hv, hbad, hstep]; simp [k1]
            go_wp2
            go_ret
            exact ⟨by rw [hv14]; rfl, hb2⟩
          · have k1b : decide (((Utf8.decode s pos).1 : Int) ≤ 31) = false := decide_eq_false (by omega)
            by_cases k2 : (Utf8.decode s pos).1 = 127
            · have k2b : (((Utf8.decode s pos).1 : Int) == 127) = true := beq_iff_eq.2 (by omega)
              have hv14 : vv s = 14 := by rw [hv, hbad, hstep]; simp [k2]
              go_wp2
              go_ret
              exact ⟨by rw [hv14]; rfl, hb2⟩
            · have k2b : (((Utf8.decode s pos).1 : Int) == 127) = false := beq_eq_false_iff_ne.2 (by omega)
              have hbad2 : s.data.toList.any badB = (s.data.toList.drop (pos + (Utf8.decode s pos).2)).any badB := by rw [hbad, hstep]; simp [k1, k2]
              clear hstep hv hbad
              go_wp2
              go_roundw
              case rel => exact ⟨_, hit2, hb2, hw1, hv2, hbad2⟩
              case measure => rw [ip, ip2]; omega
        · have hnx : ∀ ty, (Instr.next (.pointer (some ⟨w1.heap.size, 0, none⟩)) true ty).run Tryz.prog wr = _ := fun ty => run_next_over wr _ s pos ty hit hp
          have hv0 : vv s = 0 := by rw [hv, hbad, drop_end s pos hp]; rfl
          go_wp2
          go_ret
          exact ⟨by rw [hv0]; rfl, HB1⟩
end Go.Proofs.YthjcmodhleoocaaGreatDoor.Z
/- ZVa -/
namespace Go.Proofs.YthjcmodhleoocaaGreatDoor.Z
open Go Go.RowKit Go.Lib
set_option linter.unusedVariables false
set_option linter.unusedSimpArgs false
set_option maxRecDepth 100000 in
set_option maxHeartbeats 4000000 in
theorem vaAttributes (w : World) (ga ca : Nat) (tv xv rv kv hv lv : Value) (wd : ByteArray) (b : Bool) (hc : 1 ≤ ca) (hw : nmB wd = true) (h0 : w.cell? ⟨ga, 0, none⟩ = some (.string wd)) (h1 : w.cell? ⟨ga, 1, none⟩ = some (.bool b)) :
    Calls Tryz.prog 44 #[.agg #[.slice (some ⟨ga, 0, none⟩) 1 ca, tv, xv, rv, kv, hv, lv]] w fun r w' => r = .returned (.tuple #[.int .i64 0, .int .i64 0]) ∧ Below w.heap.size w w' := by
  have HW := Lib.hid hw
  have c0 : (0 : Int) ≤ ca := by omega
  clear hw
  have hb1 : Below w.heap.size w (w.alloc (.cells #[.slice (some ⟨ga, 0, none⟩) 1 ca, tv, xv, rv, kv, hv, lv] 30)) := (Below.refl _ w).alloc (Nat.le_refl _) _
  have hx1 := blk_new w (.cells #[.slice (some ⟨ga, 0, none⟩) 1 ca, tv, xv, rv, kv, hv, lv] 30)
  have hg1 := Below.heap_alloc w (.cells #[.slice (some ⟨ga, 0, none⟩) 1 ca, tv, xv, rv, kv, hv, lv] 30) ga (World.block_lt_of_cell? w _ h0)
  have hgl := World.block_lt_of_cell? w _ h0
  go_enter Tryz.func44, Tryz.ntmps44
  go_wp2_with fail
  have g0 := (World.cell?_of_block (a := ⟨ga, 0, none⟩) hg1).trans h0
  have g1 := (World.cell?_of_block (a := ⟨ga, 1, none⟩) hg1).trans h1
  generalize w.alloc (.cells #[.slice (some ⟨ga, 0, none⟩) 1 ca, tv, xv, rv, kv, hv, lv] 30) = w1 at *
  have x0 := blk_cell hx1 0
  simp at x0
  go_loopg [21] 1 (fun q v w' => (q = 1 ∧ v = .int .i64 0 ∧ w' = w1) ∨ (q = 0 ∧ v = .int .i64 1 ∧ Below w.heap.size w w'))
  case atStart => exact .inl ⟨rfl, rfl, rfl⟩
  case round =>
    rcases hrel with ⟨rfl, rfl, rfl⟩ | ⟨rfl, rfl, hb⟩
    · have m0 : ∀ o, (wr.alloc o).cell? ⟨w.heap.size, 0, none⟩ = some (.slice (some ⟨ga, 0, none⟩) 1 ca) := fun o => blk_cell (blk_alloc hx1 o) 0
      go_wp2_with (go_at_call 35; refine (validName wd _).mono ?_; rintro r w' ⟨rfl, rfl⟩; rw [HW.out])
      go_loopg [36] 0 (fun q v w' => v = .int .i64 0 ∧ Below w.heap.size w w')
      case atStart => exact ⟨rfl, hb1.alloc hb1.size _⟩
      case round =>
        obtain ⟨rfl, hb⟩ := hrel
        go_wp2
        go_roundg 0
        case measure => omega
        case rel => exact .inr ⟨rfl, rfl, hb⟩
    · go_wp2
      go_ret2
      exact ⟨rfl, hb⟩
end Go.Proofs.YthjcmodhleoocaaGreatDoor.Z
/- ZVt -/
namespace Go.Proofs.YthjcmodhleoocaaGreatDoor.Z
open Go Go.RowKit Go.Lib
set_option linter.unusedVariables false
set_option linter.unusedSimpArgs false
theorem errValC (a s : ByteArray) (w : World) : Calls Tryz.prog 70 #[.agg #[.string a, .bool false], .string s] w fun e w' => e = .returned (.int .i64 (vv s)) ∧ Below w.heap.size w w' := by
  go_enter Tryz.func70, Tryz.ntmps70
  go_wp2_with (go_at_call 98; refine (mkValue_calls s _).mono ?_; rintro e w' ⟨rfl, hb⟩)
  go_ret
  exact ⟨rfl, ((Below.refl _ w).alloc (Nat.le_refl _) _).trans (hb.mono (by simp))⟩
/-- Every token is one value of no error. -/
def TokR (w : World) (At : Option Addr) (n : Nat) : Prop := ∀ i, i < n → ∃ gt gi ci si, At = some ⟨gt, 0, none⟩ ∧ w.cell? ⟨gt, i, none⟩ = some (.slice (some ⟨gi, 0, none⟩) 1 ci) ∧ w.cell? ⟨gi, 0, none⟩ = some (.string si) ∧ vv si = 0
set_option maxRecDepth 100000 in
set_option maxHeartbeats 4000000 in
theorem vaTokens (w : World) (ga ca n ct : Nat) (At : Option Addr) (xv rv kv hv lv : Value) (wd : ByteArray) (hn : n ≤ 100) (h0 : w.cell? ⟨ga, 0, none⟩ = some (.string wd)) (h1 : w.cell? ⟨ga, 1, none⟩ = some (.bool false)) (hT : TokR w At n) :
    Calls Tryz.prog 45 #[.agg #[.slice (some ⟨ga, 0, none⟩) 1 ca, .slice At n ct, xv, rv, kv, hv, lv]] w fun r w' => r = .returned (.tuple #[.int .i64 0, .int .i64 0]) ∧ Below w.heap.size w w' := by
  have HT := Lib.hid hT
  clear hT
  have d1 : decide ((4096 : Int) < n) = false := by simp; omega
  have hb1 : Below w.heap.size w (w.alloc (.cells #[.slice (some ⟨ga, 0, none⟩) 1 ca, .slice At n ct, xv, rv, kv, hv, lv] 30)) := (Below.refl _ w).alloc (Nat.le_refl _) _
  have hx1 := blk_new w (.cells #[.slice (some ⟨ga, 0, none⟩) 1 ca, .slice At n ct, xv, rv, kv, hv, lv] 30)
  go_enter Tryz.func45, Tryz.ntmps45
  go_wp2_with fail
  generalize w.alloc (.cells #[.slice (some ⟨ga, 0, none⟩) 1 ca, .slice At n ct, xv, rv, kv, hv, lv] 30) = w1 at *
  obtain ⟨cb, hcb⟩ : ∃ cb, cb = w.heap.size := ⟨_, rfl⟩
  rw [← hcb]
  have HC := Lib.hid hcb
  rw [← hcb] at hx1
  clear hcb
  go_loopg [16] n (fun q v w' => ∃ i : Nat, i + q = n ∧ v = .int .i64 i ∧ Aside (Below w.heap.size w w' ∧ w'.heap[cb]? = some (.cells #[.slice (some ⟨ga, 0, none⟩) 1 ca, .slice At n ct, xv, rv, kv, hv, lv] 30 (0, 0))))
  case atStart => exact ⟨0, by omega, rfl, ⟨hb1, hx1⟩⟩
  case round =>
    obtain ⟨i, hi, rfl, HA⟩ := hrel
    obtain ⟨hb, hx⟩ := HA.out
    clear HA hb1 hx1
    by_cases hlt : i < n
    · obtain ⟨gt, gi, ci, si, rfl, t1, t2, t3⟩ := HT.out i hlt
      have p0 : (0 : Int) ≤ i := by omega
      have p1 : decide ((i : Int) < n) = true := by simpa using hlt
      have HV := Lib.hid t3
      clear t3
      have e1 := (hb.cell (World.block_lt_of_cell? w _ t1)).trans t1
      have e2 := (hb.cell (World.block_lt_of_cell? w _ t2)).trans t2
      have e3 := (hb.cell (World.block_lt_of_cell? w _ h0)).trans h0
      have e4 := (hb.cell (World.block_lt_of_cell? w _ h1)).trans h1
      have x0 := blk_cell hx 0
      simp at x0
      go_wp2
      go_loopg [30] 1 (fun q v w' => (q = 1 ∧ v = .int .i64 0 ∧ w' = wr) ∨ (q = 0 ∧ v = .int .i64 1 ∧ Aside (Below wr.heap.size wr w')))
      case atStart => exact .inl ⟨rfl, rfl, rfl⟩
      case round =>
        rcases hrel with ⟨rfl, rfl, rfl⟩ | ⟨rfl, rfl, HB⟩
        · go_wp2_with (go_at_call 70; refine (errValC wd si _).mono ?_; rintro r w3 ⟨rfl, hb3⟩; rw [HV.out])
          go_roundg 0
          case measure => omega
          case rel => exact .inr ⟨rfl, rfl, ⟨hb3⟩⟩
        · go_wp2
          go_roundg (gk - 1)
          case measure => omega
          case rel => exact ⟨i + 1, by omega, rfl, ⟨hb.trans (HB.out.mono hb.size), (HB.out.block cb (blk_lt hx)).trans hx⟩⟩
    · have p1 : decide ((i : Int) < n) = false := by simpa using hlt
      go_wp2
      go_ret2
      exact ⟨rfl, hb⟩
end Go.Proofs.YthjcmodhleoocaaGreatDoor.Z
/- ZVx -/
namespace Go.Proofs.YthjcmodhleoocaaGreatDoor.Z
open Go Go.RowKit Go.Lib
set_option linter.unusedVariables false
set_option linter.unusedSimpArgs false
theorem findOne (a b d e f g : Value) (gx cx : Nat) (s : ByteArray) (u v k : Value) (w : World) (h0 : w.cell? ⟨gx, 0, none⟩ = some (.string s)) (h1 : w.cell? ⟨gx, 1, none⟩ = some (.int .i64 0)) (n : Int) (h2 : w.cell? ⟨gx, 2, none⟩ = some (.int .i64 n)) (h3 : w.cell? ⟨gx, 3, none⟩ = some (.slice none 0 0)) :
    Calls Tryz.prog 71 #[.agg #[a, b, .slice (some ⟨gx, 0, none⟩) 1 cx, d, e, f, g], .string s] w fun r w' => r = .returned (.int .i64 0) ∧ Below w.heap.size w w' := by
  have hl := World.block_lt_of_cell? w _ h0
  go_enter Tryz.func71, Tryz.ntmps71
  go_wp2
  go_loopg [10] 0 (fun q v w' => v = .int .i64 0 ∧ w' = w.alloc (.cells #[a, b, .slice (some ⟨gx, 0, none⟩) 1 cx, d, e, f, g] 30))
  case atStart => exact ⟨rfl, rfl⟩
  case round =>
    obtain ⟨rfl, rfl⟩ := hrel
    go_wp2
    go_ret
    exact ⟨rfl, ((Below.refl _ _).alloc (Nat.le_refl _) _).alloc (by simp) _⟩
theorem noPairs (w : World) : Calls Tryz.prog 72 #[.slice none 0 0] w fun r w' => r = .returned (.int .i64 0) ∧ w' = w := by
  go_enter Tryz.func72, Tryz.ntmps72
  go_wp2
  go_loopg [11] 0 (fun q v w' => v = .int .i64 0 ∧ w' = w)
  case atStart => exact ⟨rfl, rfl⟩
  case round =>
    obtain ⟨rfl, rfl⟩ := hrel
    go_wp2
    go_ret
    exact ⟨rfl, rfl⟩
set_option maxRecDepth 100000 in
set_option maxHeartbeats 4000000 in
theorem vaNoText (w : World) (av rv kv hv lv : Value) (At : Option Addr) (ct : Nat) :
    Calls Tryz.prog 46 #[.agg #[av, .slice At 0 ct, .slice none 0 0, rv, kv, hv, lv]] w fun r w' => r = .returned (.tuple #[.int .i64 0, .int .i64 0]) ∧ Below w.heap.size w w' := by
  go_enter Tryz.func46, Tryz.ntmps46
  go_wp2
  go_loopg [26] 0 (fun q v w' => v = .int .i64 0 ∧ w' = w.alloc (.cells #[av, .slice At 0 ct, .slice none 0 0, rv, kv, hv, lv] 30))
  case atStart => exact ⟨rfl, rfl⟩
  case round =>
    obtain ⟨rfl, rfl⟩ := hrel
    go_wp2
    go_ret2
    exact ⟨rfl, (Below.refl _ _).alloc (Nat.le_refl _) _⟩
set_option maxRecDepth 100000 in
set_option maxHeartbeats 4000000 in
theorem vaText (w : World) (gx cx n ct : Nat) (At : Option Addr) (av rv kv hv lv : Value) (id : ByteArray) (hn : 1 ≤ n ∧ n ≤ 100) (hid : nmB id = true) (h0 : w.cell? ⟨gx, 0, none⟩ = some (.string id)) (h1 : w.cell? ⟨gx, 1, none⟩ = some (.int .i64 0)) (h2 : w.cell? ⟨gx, 2, none⟩ = some (.int .i64 n)) (h3 : w.cell? ⟨gx, 3, none⟩ = some (.slice none 0 0)) :
    Calls Tryz.prog 46 #[.agg #[av, .slice At n ct, .slice (some ⟨gx, 0, none⟩) 1 cx, rv, kv, hv, lv]] w fun r w' => r = .returned (.tuple #[.int .i64 0, .int .i64 0]) ∧ Below w.heap.size w w' := by
  have HI := Lib.hid hid
  clear hid
  have d1 : ((n : Int) == 0) = false := by rw [beq_eq_false_iff_ne]; omega
  have d2 : decide ((n : Int) ≤ 0) = false := by simp; omega
  have hl := World.block_lt_of_cell? w _ h0
  have hb1 : Below w.heap.size w (w.alloc (.cells #[av, .slice At n ct, .slice (some ⟨gx, 0, none⟩) 1 cx, rv, kv, hv, lv] 30)) := (Below.refl _ w).alloc (Nat.le_refl _) _
  have hx1 := blk_new w (.cells #[av, .slice At n ct, .slice (some ⟨gx, 0, none⟩) 1 cx, rv, kv, hv, lv] 30)
  go_enter Tryz.func46, Tryz.ntmps46
  go_wp2
  obtain ⟨cb, hcb⟩ : ∃ cb, cb = w.heap.size := ⟨_, rfl⟩
  rw [← hcb]
  have HC := Lib.hid hcb
  rw [← hcb] at hx1
  clear hcb
  generalize w.alloc (.cells #[av, .slice At n ct, .slice (some ⟨gx, 0, none⟩) 1 cx, rv, kv, hv, lv] 30) = w1 at *
  go_loopg [4, 26] 1 (fun q u v w' => (q = 1 ∧ u = .int .i64 0 ∧ v = .int .i64 0 ∧ w' = w1) ∨ (q = 0 ∧ v = .int .i64 1 ∧ Below w.heap.size w w'))
  case atStart => exact .inl ⟨rfl, rfl, rfl, rfl⟩
  case round =>
    rcases hrel with ⟨rfl, rfl, rfl, rfl⟩ | ⟨rfl, rfl, hb⟩
    · have e0 := (hb1.cell (World.block_lt_of_cell? w _ h0)).trans h0
      have e1 := (hb1.cell (World.block_lt_of_cell? w _ h1)).trans h1
      have e2 := (hb1.cell (World.block_lt_of_cell? w _ h2)).trans h2
      have e3 := (hb1.cell (World.block_lt_of_cell? w _ h3)).trans h3
      have m0 : ∀ (o : Obj) (i : Nat), (wr.alloc o).cell? ⟨cb, i, none⟩ = #[av, .slice At n ct, .slice (some ⟨gx, 0, none⟩) 1 cx, rv, kv, hv, lv][i]? := fun o i => blk_cell (blk_alloc hx1 o) i
      have hgl : gx < wr.heap.size := Nat.lt_of_lt_of_le hl hb1.size
      have m1 : ∀ (o : Obj) (i : Nat), (wr.alloc o).cell? ⟨gx, i, none⟩ = wr.cell? ⟨gx, i, none⟩ := fun o i => World.cell?_of_block (Below.heap_alloc wr o gx hgl)
      go_wp2_with (first
        | (go_at_call 35; refine (validName id _).mono ?_; rintro r w' ⟨rfl, rfl⟩; rw [HI.out]))
      refine (findOne av _ rv kv hv lv gx cx id (.int .i64 0) (.int .i64 n) (.slice none 0 0) _ ((m1 _ 0).trans e0) ((m1 _ 1).trans e1) n ((m1 _ 2).trans e2) ((m1 _ 3).trans e3)).mono ?_
      rintro r w3 ⟨rfl, hb3⟩
      obtain ⟨tb, htb⟩ : ∃ tb, tb = wr.heap.size := ⟨_, rfl⟩
      have hc3 := (hb3.block cb (by have := blk_lt hx1; simp; omega)).trans (blk_alloc hx1 (.cells #[.string id, .int .i64 0, .int .i64 n, .slice none 0 0] 85))
      have ht3 := (hb3.block wr.heap.size (by simp)).trans (blk_new wr (.cells #[.string id, .int .i64 0, .int .i64 n, .slice none 0 0] 85))
      have hb4 : Below w.heap.size w w3 := (hb1.alloc hb1.size (.cells #[.string id, .int .i64 0, .int .i64 n, .slice none 0 0] 85)).trans (hb3.mono (by have := hb1.size; simp; omega))
      rw [← htb]
      rw [← htb] at ht3
      clear htb
      have y1 := blk_cell hc3 1
      have y2 := blk_cell hc3 2
      have z0 := blk_cell ht3 0
      have z1 := blk_cell ht3 1
      have z2 := blk_cell ht3 2
      have z3 := blk_cell ht3 3
      simp at y1 y2 z0 z1 z2 z3
      have d3 : ((n : Int) != n) = false := by simp
      go_wp2_with (go_at_call 72; refine (noPairs _).mono ?_; rintro r w' ⟨rfl, rfl⟩)
      go_roundg 0
      case measure => omega
      case rel => exact .inr ⟨rfl, rfl, hb4⟩
    · go_wp2
      go_ret2
      exact ⟨rfl, hb⟩
end Go.Proofs.YthjcmodhleoocaaGreatDoor.Z
