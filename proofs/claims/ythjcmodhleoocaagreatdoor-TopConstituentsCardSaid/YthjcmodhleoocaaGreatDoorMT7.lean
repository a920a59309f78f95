/- For every corpus that comes in, TopConstituents returns true and leaves the corpus as it was; the listed variables are tied to the program's text. (Part 7.) -/
import Derived.Test.YthjcmodhleoocaaGreatDoorMT5
import Derived.Test.YthjcmodhleoocaaGreatDoorMT6
import Derived.Test.YthjcmodhleoocaaGreatDoorMT1
import Derived.Test.YthjcmodhleoocaaGreatDoorMT4
import Derived.Handy
import Derived.Test.YthjcmodhleoocaaGreatDoorMT3
set_option linter.unusedVariables false
set_option linter.unusedSimpArgs false
set_option linter.unusedSectionVars false
/- ZValid6 -/
namespace Go.Proofs.YthjcmodhleoocaaGreatDoor.Z
open Go Go.RowKit Go.Lib
set_option linter.unusedVariables false
set_option linter.unusedSimpArgs false
/-- What a valid corpus is, as far as its constituents are concerned. -/
def RetT (r : Ending) (P : Prop) : Prop := ∃ b, r = .returned (.bool b) ∧ (b = true → P)
def Good (C : Co) : Prop := TxOk C.txs C.tks.length ∧ ∃ D, NdOk C.nds C.txs D C.nds.length
set_option maxRecDepth 100000 in
set_option maxHeartbeats 16000000 in
theorem validate6 (w : World) (a t x r k h l : Value) (C : Co) (H : Cp w a t x r k h l C) :
    Calls Tryz.prog 34 #[.agg #[a, t, x, r, k, h, l]] w fun r w' => (∃ p i z, r = .returned (.tuple #[.int .i64 p, .int .i64 i, .int .i64 z]) ∧ (z = 0 → Good C)) ∧ Below w.heap.size w w' := by
  have HX := Bx.new w #[a, t, x, r, k, h, l] 30
  go_enter Tryz.func34, Tryz.ntmps34
  go_wp2_with fail
  obtain ⟨cb, hcb⟩ : ∃ cb, cb = w.heap.size := ⟨_, rfl⟩
  rw [← hcb]
  rw [← hcb] at HX
  clear hcb
  generalize w.alloc (.cells #[a, t, x, r, k, h, l] 30) = w1 at *
  refine (attrs6 _ _ _ (H.ats.below HX.b)).mono ?_
  rintro rr w2 ⟨⟨y1, z1, rfl⟩, HB1⟩
  replace HX := HX.up HB1
  clear HB1
  cases dz : (z1 != 0) with
  | true =>
    go_wp2_with fail
    go_ret3
    exact ⟨⟨_, _, _, rfl, fun h => by rw [h] at dz; cases dz⟩, HX.b⟩
  | false =>
    have hz0 : z1 = 0 := by simpa using dz
    subst hz0
    clear dz
    obtain ⟨m0, m1, m2, m3, m4, m5, m6, _⟩ := cp7 HX
    go_wp2_with fail
    refine (tokens6 _ a t x r k h l _ _ (H.ats.below HX.b) (H.tks.below HX.b)).mono ?_
    rintro rr w2 ⟨⟨y1, z1, rfl⟩, HB1⟩
    replace HX := HX.up HB1
    clear HB1 m0 m1 m2 m3 m4 m5 m6
    cases dz : (z1 != 0) with
    | true =>
      go_wp2_with fail
      go_ret3
      exact ⟨⟨_, _, _, rfl, fun h => by rw [h] at dz; cases dz⟩, HX.b⟩
    | false =>
      have hz0 : z1 = 0 := by simpa using dz
      subst hz0
      clear dz
      obtain ⟨m0, m1, m2, m3, m4, m5, m6, _⟩ := cp7 HX
      go_wp2_with fail
      refine (texts6 _ a t x r k h l _ _ (H.tks.below HX.b) (H.txs.below HX.b)).mono ?_
      rintro rr w2 ⟨⟨y1, z1, rfl, hz1⟩, HB1⟩
      replace HX := HX.up HB1
      clear HB1 m0 m1 m2 m3 m4 m5 m6
      have HT := Lib.hid hz1
      clear hz1
      cases dz : (z1 != 0) with
      | true =>
        go_wp2_with fail
        go_ret3
        exact ⟨⟨_, _, _, rfl, fun h => by rw [h] at dz; cases dz⟩, HX.b⟩
      | false =>
        have hz0 : z1 = 0 := by simpa using dz
        subst hz0
        clear dz
        replace HT := Lib.hid (HT.out rfl)
        obtain ⟨m0, m1, m2, m3, m4, m5, m6, _⟩ := cp7 HX
        go_wp2_with fail
        refine (regions6 _ a t x r k h l _ _ (H.txs.below HX.b) (H.rgs.below HX.b)).mono ?_
        rintro rr w2 ⟨⟨y1, z1, rfl⟩, HB1⟩
        replace HX := HX.up HB1
        clear HB1 m0 m1 m2 m3 m4 m5 m6
        cases dz : (z1 != 0) with
        | true =>
          go_wp2_with fail
          go_ret3
          exact ⟨⟨_, _, _, rfl, fun h => by rw [h] at dz; cases dz⟩, HX.b⟩
        | false =>
          have hz0 : z1 = 0 := by simpa using dz
          subst hz0
          clear dz
          obtain ⟨m0, m1, m2, m3, m4, m5, m6, _⟩ := cp7 HX
          go_wp2_with fail
          refine (nodes6 _ k a t x r k h l _ _ (H.nds.below HX.b) (H.txs.below HX.b)).mono ?_
          rintro rr w2 ⟨⟨y1, z1, rfl, hz1⟩, HB1⟩
          replace HX := HX.up HB1
          clear HB1 m0 m1 m2 m3 m4 m5 m6
          have HN := Lib.hid hz1
          clear hz1
          cases dz : (z1 != 0) with
          | true =>
            go_wp2_with fail
            go_ret3
            exact ⟨⟨_, _, _, rfl, fun h => by rw [h] at dz; cases dz⟩, HX.b⟩
          | false =>
            have hz0 : z1 = 0 := by simpa using dz
            subst hz0
            clear dz
            replace HN := Lib.hid (HN.out rfl)
            obtain ⟨m0, m1, m2, m3, m4, m5, m6, _⟩ := cp7 HX
            go_wp2_with fail
            refine (heads6 _ a t x r k h l _ _ _ _ (H.tks.below HX.b) (H.txs.below HX.b) (H.hds.below HX.b) (H.rls.below HX.b)).mono ?_
            rintro rr w2 ⟨⟨y1, z1, rfl⟩, HB1⟩
            replace HX := HX.up HB1
            clear HB1 m0 m1 m2 m3 m4 m5 m6
            cases dz : (z1 != 0) with
            | true =>
              go_wp2_with fail
              go_ret3
              exact ⟨⟨_, _, _, rfl, fun h => by rw [h] at dz; cases dz⟩, HX.b⟩
            | false =>
              have hz0 : z1 = 0 := by simpa using dz
              subst hz0
              clear dz
              go_wp2_with fail
              go_ret3
              exact ⟨⟨_, _, _, rfl, fun _ => ⟨HT.out, HN.out⟩⟩, HX.b⟩
set_option maxRecDepth 100000 in
set_option maxHeartbeats 8000000 in
theorem valid6 (w : World) (a t x r k h l : Value) (C : Co) (H : Cp w a t x r k h l C) :
    Calls Tryz.prog 20 #[.agg #[a, t, x, r, k, h, l]] w fun r w' => (∃ b, r = .returned (.bool b) ∧ (b = true → Good C)) ∧ Below w.heap.size w w' := by
  have HX := Bx.new w #[a, t, x, r, k, h, l] 30
  go_enter Tryz.func20, Tryz.ntmps20
  go_wp2_with fail
  generalize w.alloc (.cells #[a, t, x, r, k, h, l] 30) = w1 at *
  refine (validate6 _ a t x r k h l C (H.below HX.b)).mono ?_
  rintro rr w2 ⟨⟨p, i, z, rfl, hz⟩, HB⟩
  replace HX := HX.up HB
  clear HB
  have HZ := Lib.hid hz
  clear hz
  go_wp2_with fail
  go_ret
  exact ⟨⟨_, rfl, fun h => HZ.out (by simpa using h)⟩, HX.b⟩
set_option maxRecDepth 100000 in
set_option maxHeartbeats 16000000 in
theorem tiny6 (w : World) (a t x r k h l : Value) (C : Co) (m : Nat) (hm : m ≤ 1000) (H : Cp w a t x r k h l C) :
    Calls Tryz.prog 5 #[.agg #[a, t, x, r, k, h, l], .int .i64 m] w fun r w' => RetT r (Good C ∧ C.nds.length ≤ 40 ∧ C.tks.length ≤ m) ∧ Below w.heap.size w w' := by
  have H0 := H
  obtain ⟨⟨A0, c0, rfl, _, _, _⟩, ⟨A1, c1, rfl, _, _, _⟩, ⟨A2, c2, rfl, _, _, _⟩, ⟨A3, c3, rfl, _, _, _⟩, ⟨A4, c4, rfl, _, _, _⟩, _, _⟩ := H
  have HX := Bx.new w #[.slice A0 C.ats.length c0, .slice A1 C.tks.length c1, .slice A2 C.txs.length c2, .slice A3 C.rgs.length c3, .slice A4 C.nds.length c4, h, l] 30
  have HC := Lib.hid H0
  clear H0
  obtain ⟨n1, hn1⟩ : ∃ n, n = C.tks.length := ⟨_, rfl⟩
  obtain ⟨n2, hn2⟩ : ∃ n, n = C.txs.length := ⟨_, rfl⟩
  obtain ⟨n3, hn3⟩ : ∃ n, n = C.rgs.length := ⟨_, rfl⟩
  obtain ⟨n4, hn4⟩ : ∃ n, n = C.nds.length := ⟨_, rfl⟩
  obtain ⟨n0, hn0⟩ : ∃ n, n = C.ats.length := ⟨_, rfl⟩
  rw [← hn0, ← hn1, ← hn2, ← hn3, ← hn4]
  rw [← hn0, ← hn1, ← hn2, ← hn3, ← hn4] at HX HC
  clear hn0 hn1 hn2 hn3 hn4
  by_cases d1 : m < n1
  · have d1' : decide ((m : Int) < n1) = true := decide_eq_true (by omega)
    go_enter Tryz.func5, Tryz.ntmps5
    go_wp2_with fail
    go_ret
    exact ⟨⟨_, rfl, fun h => by cases h⟩, HX.b⟩
  have d1' : decide ((m : Int) < n1) = false := decide_eq_false (by omega)
  by_cases d2 : 5 < n2
  · have d2' : decide ((5 : Int) < n2) = true := decide_eq_true (by omega)
    go_enter Tryz.func5, Tryz.ntmps5
    go_wp2_with fail
    go_ret
    exact ⟨⟨_, rfl, fun h => by cases h⟩, HX.b⟩
  have d2' : decide ((5 : Int) < n2) = false := decide_eq_false (by omega)
  by_cases d3 : 40 < n3
  · have d3' : decide ((40 : Int) < n3) = true := decide_eq_true (by omega)
    go_enter Tryz.func5, Tryz.ntmps5
    go_wp2_with fail
    go_ret
    exact ⟨⟨_, rfl, fun h => by cases h⟩, HX.b⟩
  have d3' : decide ((40 : Int) < n3) = false := decide_eq_false (by omega)
  by_cases d4 : 40 < n4
  · have d4' : decide ((40 : Int) < n4) = true := decide_eq_true (by omega)
    go_enter Tryz.func5, Tryz.ntmps5
    go_wp2_with fail
    go_ret
    exact ⟨⟨_, rfl, fun h => by cases h⟩, HX.b⟩
  have d4' : decide ((40 : Int) < n4) = false := decide_eq_false (by omega)
  by_cases d5 : 4 < n0
  · have d5' : decide ((4 : Int) < n0) = true := decide_eq_true (by omega)
    go_enter Tryz.func5, Tryz.ntmps5
    go_wp2_with fail
    go_ret
    exact ⟨⟨_, rfl, fun h => by cases h⟩, HX.b⟩
  have d5' : decide ((4 : Int) < n0) = false := decide_eq_false (by omega)
  have HL : Hid (n4 ≤ 40 ∧ n1 ≤ m) := Lib.hid ⟨by omega, by omega⟩
  go_enter Tryz.func5, Tryz.ntmps5
  go_wp2_with fail
  obtain ⟨cb, hcb⟩ : ∃ cb, cb = w.heap.size := ⟨_, rfl⟩
  rw [← hcb]
  rw [← hcb] at HX
  clear hcb
  generalize w.alloc (.cells #[.slice A0 n0 c0, .slice A1 n1 c1, .slice A2 n2 c2, .slice A3 n3 c3, .slice A4 n4 c4, h, l] 30) = w1 at *
  refine (weightAll _ _ _ _ _ _ _ _ C (HC.out.below HX.b)).mono ?_
  rintro rr w2 ⟨⟨z, rfl⟩, HB⟩
  replace HX := HX.up HB
  obtain ⟨m0, m1, m2, m3, m4, m5, m6, _⟩ := cp7 HX
  clear HB
  cases d6 : decide ((2500 : Int) < z) with
  | true =>
    go_wp2_with fail
    go_ret
    exact ⟨⟨_, rfl, fun h => by cases h⟩, HX.b⟩
  | false =>
    go_wp2_with fail
    refine (valid6 _ _ _ _ _ _ _ _ C (HC.out.below HX.b)).mono ?_
    rintro rr w3 ⟨⟨b, rfl, hb⟩, HB⟩
    have HZ := Lib.hid hb
    replace HX := HX.up HB
    clear hb HB
    go_wp2_with fail
    go_ret
    exact ⟨⟨_, rfl, fun h => ⟨HZ.out h, HL.out.1, HL.out.2⟩⟩, HX.b⟩
end Go.Proofs.YthjcmodhleoocaaGreatDoor.Z
/- ZVisit -/
namespace Go.Proofs.YthjcmodhleoocaaGreatDoor.Z
open Go Go.RowKit Go.Lib
open Go.Proofs.YthjcmodhleoocaaGreatDoor.TP (Lab NS vis enter leave vis_up fold_part fold_up enter_len)
set_option linter.unusedVariables false
set_option linter.unusedSimpArgs false
/-- The cells of a row of labels. -/
def LCells (cur : Array Value) (L : List Lab) : Prop := ∀ j x, L[j]? = some x → cur[j * 3]? = some (.int .i64 (x.pre : Int)) ∧ cur[j * 3 + 1]? = some (.int .i64 (x.post : Int)) ∧ cur[j * 3 + 2]? = some (.int .i64 (x.dep : Int))

theorem LCells.set0 {cur : Array Value} {L : List Lab} (h : LCells cur L) (i v : Nat) : LCells (cur.setIfInBounds (i * 3) (.int .i64 (v : Int))) (L.modify i (fun x => { x with pre := v })) := by
  intro j x hx
  rw [List.getElem?_modify] at hx
  by_cases e : i = j
  · subst e
    cases hl : L[i]? with
    | none => rw [hl] at hx; simp at hx
    | some y =>
      obtain ⟨a, b, c⟩ := h i y hl
      rw [hl] at hx; simp at hx; subst hx
      have hs := (Array.getElem?_eq_some_iff.1 a).1
      refine ⟨by simp [hs], ?_, ?_⟩
      · rw [Array.getElem?_setIfInBounds_ne (by omega)]; exact b
      · rw [Array.getElem?_setIfInBounds_ne (by omega)]; exact c
  · simp only [if_neg e] at hx
    obtain ⟨a, b, c⟩ := h j x (by simpa using hx)
    refine ⟨?_, ?_, ?_⟩
    · rw [Array.getElem?_setIfInBounds_ne (by omega)]; exact a
    · rw [Array.getElem?_setIfInBounds_ne (by omega)]; exact b
    · rw [Array.getElem?_setIfInBounds_ne (by omega)]; exact c
theorem LCells.set1 {cur : Array Value} {L : List Lab} (h : LCells cur L) (i v : Nat) : LCells (cur.setIfInBounds (i * 3 + 1) (.int .i64 (v : Int))) (L.modify i (fun x => { x with post := v })) := by
  intro j x hx
  rw [List.getElem?_modify] at hx
  by_cases e : i = j
  · subst e
    cases hl : L[i]? with
    | none => rw [hl] at hx; simp at hx
    | some y =>
      obtain ⟨a, b, c⟩ := h i y hl
      rw [hl] at hx; simp at hx; subst hx
      have hs := (Array.getElem?_eq_some_iff.1 b).1
      refine ⟨?_, by simp [hs], ?_⟩
      · rw [Array.getElem?_setIfInBounds_ne (by omega)]; exact a
      · rw [Array.getElem?_setIfInBounds_ne (by omega)]; exact c
  · simp only [if_neg e] at hx
    obtain ⟨a, b, c⟩ := h j x (by simpa using hx)
    refine ⟨?_, ?_, ?_⟩
    · rw [Array.getElem?_setIfInBounds_ne (by omega)]; exact a
    · rw [Array.getElem?_setIfInBounds_ne (by omega)]; exact b
    · rw [Array.getElem?_setIfInBounds_ne (by omega)]; exact c
theorem LCells.set2 {cur : Array Value} {L : List Lab} (h : LCells cur L) (i v : Nat) : LCells (cur.setIfInBounds (i * 3 + 2) (.int .i64 (v : Int))) (L.modify i (fun x => { x with dep := v })) := by
  intro j x hx
  rw [List.getElem?_modify] at hx
  by_cases e : i = j
  · subst e
    cases hl : L[i]? with
    | none => rw [hl] at hx; simp at hx
    | some y =>
      obtain ⟨a, b, c⟩ := h i y hl
      rw [hl] at hx; simp at hx; subst hx
      have hs := (Array.getElem?_eq_some_iff.1 c).1
      refine ⟨?_, ?_, by simp [hs]⟩
      · rw [Array.getElem?_setIfInBounds_ne (by omega)]; exact a
      · rw [Array.getElem?_setIfInBounds_ne (by omega)]; exact b
  · simp only [if_neg e] at hx
    obtain ⟨a, b, c⟩ := h j x (by simpa using hx)
    refine ⟨?_, ?_, ?_⟩
    · rw [Array.getElem?_setIfInBounds_ne (by omega)]; exact a
    · rw [Array.getElem?_setIfInBounds_ne (by omega)]; exact b
    · rw [Array.getElem?_setIfInBounds_ne (by omega)]; exact c

/-- World W0 has become W: only block g (the state) and block gl (the labels) may have changed. -/
structure VS (tS tL : Nat) (A0 : Value) (g gl n cap : Nat) (W0 W : World) (s : NS) : Prop where
  os : W.os = W0.os
  tape : W.tape = W0.tape
  output : W.output = W0.output
  size : W.heap.size = W0.heap.size
  keep : ∀ k, k ≠ g → k ≠ gl → W.heap[k]? = W0.heap[k]?
  st : W.heap[g]? = some (.cells #[A0, .slice (some ⟨gl, 0, none⟩) n cap, .int .i64 (s.pre : Int), .int .i64 (s.post : Int)] tS (0, 0))
  row : ∃ cur, W.heap[gl]? = some (.cells cur tL (0, 0)) ∧ LCells cur s.L ∧ cur.size = cap * 3
  ne : g ≠ gl

section
variable {tS tL : Nat} {A0 : Value} {g gl n cap : Nat} {W0 W : World} {s : NS}
theorem VS.drew (h : VS tS tL A0 g gl n cap W0 W s) : VS tS tL A0 g gl n cap W0 W.drew s := ⟨h.os, h.tape, h.output, h.size, h.keep, h.st, h.row, h.ne⟩
theorem VS.drewN (h : VS tS tL A0 g gl n cap W0 W s) (m : Nat) : VS tS tL A0 g gl n cap W0 (W.drewN m) s := ⟨h.os, h.tape, h.output, h.size, h.keep, h.st, h.row, h.ne⟩
theorem VS.far (h : VS tS tL A0 g gl n cap W0 W s) {b : Nat} (hb : b ≠ g) (hb' : b ≠ gl) {a : Addr} (e : a.block = b) : W.cell? a = W0.cell? a := World.cell?_of_block (e ▸ h.keep b hb hb')
theorem VS.cell (h : VS tS tL A0 g gl n cap W0 W s) (i : Nat) : W.cell? ⟨g, i, none⟩ = #[A0, .slice (some ⟨gl, 0, none⟩) n cap, .int .i64 (s.pre : Int), .int .i64 (s.post : Int)][i]? := blk_cell h.st i
theorem VS.free (h : VS tS tL A0 g gl n cap W0 W s) (i : Nat) : W.frozen? ⟨g, i, none⟩ = false := blk_frozen h.st i
theorem VS.lab (h : VS tS tL A0 g gl n cap W0 W s) (i : Nat) (hi : i < s.L.length) : ∃ p q d : Int, W.cell? ⟨gl, i * 3, none⟩ = some (.int .i64 p) ∧ W.cell? ⟨gl, i * 3 + 1, none⟩ = some (.int .i64 q) ∧ W.cell? ⟨gl, i * 3 + 2, none⟩ = some (.int .i64 d) := by
  obtain ⟨cur, hc, hl, _⟩ := h.row
  obtain ⟨a, b, c⟩ := hl i s.L[i] (List.getElem?_eq_getElem hi)
  exact ⟨_, _, _, (blk_cell hc _).trans a, (blk_cell hc _).trans b, (blk_cell hc _).trans c⟩
theorem VS.labfree (h : VS tS tL A0 g gl n cap W0 W s) (i : Nat) : W.frozen? ⟨gl, i, none⟩ = false := by
  obtain ⟨cur, hc, _, _⟩ := h.row
  exact blk_frozen hc i
theorem VS.enter (h : VS tS tL A0 g gl n cap W0 W s) (i d : Nat) :
    VS tS tL A0 g gl n cap W0 (((W.setCell ⟨gl, i * 3, none⟩ (.int .i64 (s.pre : Int))).setCell ⟨gl, i * 3 + 2, none⟩ (.int .i64 (d : Int))).setCell ⟨g, 2, none⟩ (.int .i64 ((s.pre : Int) + 1))) (TP.enter i d s) := by
  obtain ⟨cur, hc, hl, hsz⟩ := h.row
  refine ⟨h.os, h.tape, h.output, by simp [World.setCell, h.size], fun k a b => ?_, ?_, ?_, h.ne⟩
  · rw [Below.heap_setCell _ _ _ _ a, Below.heap_setCell _ _ _ _ b, Below.heap_setCell _ _ _ _ b]
    exact h.keep k a b
  · exact blk_put (blk_far (blk_far h.st (by exact h.ne) _) (by exact h.ne) _) 2 _ (by simp [TP.enter])
  · refine ⟨_, blk_far (blk_set (blk_set hc _ _) _ _) (by exact h.ne.symm) _, ?_⟩
    have := (hl.set0 i s.pre).set2 i d
    rw [List.modify_modify_eq] at this
    exact ⟨this, by rw [Array.size_setIfInBounds, Array.size_setIfInBounds]; exact hsz⟩
theorem VS.leave (h : VS tS tL A0 g gl n cap W0 W s) (i : Nat) :
    VS tS tL A0 g gl n cap W0 ((W.setCell ⟨gl, i * 3 + 1, none⟩ (.int .i64 (s.post : Int))).setCell ⟨g, 3, none⟩ (.int .i64 ((s.post : Int) + 1))) (TP.leave i s) := by
  obtain ⟨cur, hc, hl, hsz⟩ := h.row
  refine ⟨h.os, h.tape, h.output, by simp [World.setCell, h.size], fun k a b => ?_, ?_, ?_, h.ne⟩
  · rw [Below.heap_setCell _ _ _ _ a, Below.heap_setCell _ _ _ _ b]
    exact h.keep k a b
  · exact blk_put (blk_far h.st (by exact h.ne) _) 3 _ (by simp [TP.leave])
  · exact ⟨_, blk_far (blk_set hc _ _) (by exact h.ne.symm) _, hl.set1 i s.post, by rw [Array.size_setIfInBounds]; exact hsz⟩
end

/-- The lists of children of the nodes, each in memory that stays. -/
def Kids (W0 : World) (g gl : Nat) (Ac : Option Addr) (n : Nat) (kd : Nat → List Nat) : Prop :=
  ∀ i, i < n → ∃ bc oc, Ac = some ⟨bc, oc, none⟩ ∧ bc ≠ g ∧ bc ≠ gl ∧ ∃ Ai ci, W0.cell? ⟨bc, oc + i, none⟩ = some (.slice Ai (kd i).length ci) ∧
    ((kd i).length ≠ 0 → ∃ bi oi, Ai = some ⟨bi, oi, none⟩ ∧ bi ≠ g ∧ bi ≠ gl ∧ ∀ j (h : j < (kd i).length), W0.cell? ⟨bi, oi + j, none⟩ = some (.int .i64 ((kd i)[j] : Int)))
def blank (n : Nat) : NS := ⟨List.replicate n ⟨0, 0, 0⟩, 0, 0⟩
set_option maxRecDepth 100000 in
set_option maxHeartbeats 4000000 in
theorem visit_calls {W0 : World} {g gl n cap cc : Nat} {Ac : Option Addr} {kd : Nat → List Nat} (hk : Kids W0 g gl Ac n kd) (hn : n ≤ 1000000) (hlen : ∀ i, (kd i).length ≤ 1000000) (k : Nat) :
    ∀ (i d : Nat) (x y : Int) (s t : NS) (W : World), x = i → y = d → vis kd k i d s = some t → s.L.length = n → t.pre ≤ 1000000 → t.post ≤ 1000000 → d + k ≤ 1000000 →
    VS 61 39 (.slice Ac n cc) g gl n cap W0 W s →
    Calls Tryz.prog 22 #[.pointer (some ⟨g, 0, none⟩), .int .i64 x, .int .i64 y] W fun e w' => e = .returned (.tuple #[]) ∧ VS 61 39 (.slice Ac n cc) g gl n cap W0 w' t := by
  induction k with
  | zero => intro i d x y s t W _ _ h; cases h
  | succ k ih =>
    intro i d x y s t W hx hy h hL hp hq hd hV
    subst hx; subst hy
    have hup := vis_up _ _ _ _ _ h
    simp only [vis] at h
    split at h
    case isFalse => cases h
    case isTrue hi =>
    cases hf : (kd i).foldlM (fun s c => vis kd k c (d + 1) s) (enter i d s) with
    | none => rw [hf] at h; cases h
    | some m =>
    rw [hf] at h
    obtain rfl := Option.some.inj h
    obtain ⟨bc, oc, rfl, hbg, hbl, Ai, ci, hci, hcc⟩ := hk i (by omega)
    obtain ⟨p0, p1, p2, l0, l1, l2⟩ := hV.lab i hi
    have m0 := hV.labfree (i * 3)
    have m2 := hV.labfree (i * 3 + 2)
    have c0 := hV.cell 0
    have c1 := hV.cell 1
    have c2 := hV.cell 2
    have f2 := hV.free 2
    have hlab : i < n := by omega
    have hne := hV.ne
    have hup1 := hup.1; have hup2 := hup.2.1; have hup3 := hup.2.2.1
    have hb1 : s.pre ≤ 1000000 := by omega
    have hb2 : s.post ≤ 1000000 := by omega
    have hE := Aside.mk (hV.drew.enter i d)
    have hld : (((W.setCell ⟨gl, i * 3, none⟩ (.int .i64 (s.pre : Int))).setCell ⟨gl, i * 3 + 2, none⟩ (.int .i64 (d : Int))).setCell ⟨g, 2, none⟩ (.int .i64 ((s.pre : Int) + 1))).cell? ⟨bc, oc + i, none⟩ = some (.slice Ai (kd i).length ci) := (hE.out.far hbg hbl rfl).trans hci
    have HF := Aside.mk hf
    have HL := hlen i
    have hu56 := Tryz.underlying61
    have hu41 := Tryz.underlying39
    have HLs := Aside.mk hL
    have HCC := Aside.mk hcc
    have HIH := Aside.mk ih
    have HP : m.pre ≤ 1000000 := hp
    have HQ : m.post + 1 ≤ 1000000 := hq
    simp at c0 c1 c2
    clear hf h hV hup hL hup1 hcc ih hlen hk hp hq hci
    go_enter Tryz.func22, Tryz.ntmps22
    go_wp2
    go_region
    go_wp2
    go_loopg [42] (kd i).length (fun kq v42 wr => ∃ (j : Nat) (sj : NS), v42 = .int .i64 (j : Int) ∧ j ≤ (kd i).length ∧ Aside (kq + j = (kd i).length) ∧ Aside (((kd i).drop j).foldlM (fun s c => vis kd k c (d + 1) s) sj = some m) ∧ Aside (sj.L.length = n) ∧ Aside (VS 61 39 (.slice (some ⟨bc, oc, none⟩) n cc) g gl n cap W0 wr sj))
    case atStart => exact ⟨0, enter i d s, rfl, Nat.zero_le _, ⟨rfl⟩, ⟨by rw [List.drop_zero]; exact HF.out⟩, ⟨by rw [enter_len]; exact HLs.out⟩, ⟨hE.out⟩⟩
    case round =>
      clear hE hld l0 l1 l2 m0 m2 c0 c1 c2 f2
      obtain ⟨j, sj, rfl, hj, HK, HFj, HLj, HVj⟩ := hrel
      by_cases hlt : j < (kd i).length
      · obtain ⟨m', hv, hr⟩ := fold_part _ j hlt HFj.out
        obtain ⟨bi, oi, rfl, hig, hil, hic⟩ := HCC.out (by omega)
        have hcell : wr.cell? ⟨bi, oi + j, none⟩ = some (.int .i64 ((kd i)[j] : Int)) := (HVj.out.far hig hil rfl).trans (hic j hlt)
        have hup := vis_up _ _ _ _ _ hv
        have hup' := fold_up (vis_up k) _ _ _ hr
        have e1 := hup.1; have e2 := hup'.2.1; have e3 := hup'.2.2.1
        have Hv := Aside.mk hv
        have Hr := Aside.mk hr
        have E1 : m'.pre ≤ 1000000 := by omega
        have E2 : m'.post ≤ 1000000 := by omega
        have E3 := Aside.mk (e1.trans HLj.out)
        clear hv hr hup hup' hic e1 e2 e3 HFj
        go_wp2_with (go_at_call 22; refine (HIH.out ((kd i)[j]) (d + 1) _ _ sj m' _ rfl (by omega) Hv.out HLj.out E1 E2 (by omega) HVj.out).mono ?_; rintro e w1 ⟨rfl, hV1⟩; have HV1 := Aside.mk hV1; clear hV1)
        go_roundg ((kd i).length - (j + 1))
        case measure => have := HK.out; omega
        case rel => exact ⟨j + 1, m', by go_num, by omega, ⟨by omega⟩, Hr, E3, HV1⟩
      · obtain rfl : j = (kd i).length := by omega
        have hfe := HFj.out
        rw [List.drop_length] at hfe
        obtain rfl := Option.some.inj hfe
        obtain ⟨q0, q1, q2, l0, l1, l2⟩ := HVj.out.lab i (by rw [HLj.out]; exact hlab)
        have m1 := HVj.out.labfree (i * 3 + 1)
        have c1 := HVj.out.cell 1
        have c3 := HVj.out.cell 3
        have f3 := HVj.out.free 3
        have HE := Aside.mk (HVj.out.drew.leave i)
        simp at c1 c3
        clear HFj hfe HVj
        go_wp2
        go_region
        go_wp2
        go_end0
        exact ⟨rfl, HE.out⟩
end Go.Proofs.YthjcmodhleoocaaGreatDoor.Z
/- ZChk21 -/
namespace Go.Proofs.YthjcmodhleoocaaGreatDoor.Z
open Go Go.RowKit Go.Lib
set_option linter.unusedVariables false
set_option linter.unusedSimpArgs false
/-- Marks: between 0 and i + 1; up to p at most i. -/
def MK (xs : List Value) (n : Nat) (i : Nat) (p : Int) : Prop := ∀ k, k < n → ∃ z : Int, xs[k]? = some (.int .i64 z) ∧ 0 ≤ z ∧ z ≤ (i : Int) + 1 ∧ ((k : Int) ≤ p → z ≤ i)
theorem MK.start (n : Nat) : MK (List.replicate n (.int .i64 0)) n 0 n := fun k hk => ⟨0, by simp [hk], by omega, by omega, fun _ => by omega⟩
theorem MK.begin {xs : List Value} {n i : Nat} {p : Int} (h : MK xs n i p) (q : Int) : MK xs n (i + 1) q := fun k hk => by
  obtain ⟨z, a, b, c, _⟩ := h k hk
  exact ⟨z, a, b, by omega, fun _ => by omega⟩
theorem MK.mark {xs : List Value} {n i a : Nat} {q : Int} (h : MK xs n i (a : Int)) (hl : xs.length = n) (hq : q < a) : MK (xs.set a (.int .i64 ((i : Int) + 1))) n i q := fun k hk => by
  obtain ⟨z, h1, h2, h3, h4⟩ := h k hk
  by_cases e : a = k
  · subst e
    exact ⟨(i : Int) + 1, by rw [List.getElem?_set_self (by omega)], by omega, by omega, fun h => by omega⟩
  · exact ⟨z, by rw [List.getElem?_set_ne e]; exact h1, h2, h3, fun h => h4 (by omega)⟩
theorem MK.lower {xs : List Value} {n i : Nat} {p q : Int} (h : MK xs n i p) (hq : q ≤ p) : MK xs n i q := fun k hk => by
  obtain ⟨z, h1, h2, h3, h4⟩ := h k hk
  exact ⟨z, h1, h2, h3, fun h => h4 (by omega)⟩
set_option maxRecDepth 100000 in
set_option maxHeartbeats 16000000 in
theorem check21 (w : World) (v : Value) (ps : List Int) (hI : Is w v ps) (hp : ∀ (i : Nat) z, ps[i]? = some z → -1 ≤ z ∧ z < i) (hn : ps.length ≤ 1000) :
    Calls Tryz.prog 21 #[v] w fun r w' => r = .returned (.tuple #[.int .i64 0, .int .i64 0]) ∧ Below w.heap.size w w' := by
  obtain ⟨A, c, rfl, hnc, hcm, hR⟩ := hI
  clear hnc hcm
  obtain ⟨n, hnl⟩ : ∃ n, n = ps.length := ⟨_, rfl⟩
  rw [← hnl] at hn ⊢
  have K := Lib.hid hR
  have N := Lib.hid hnl
  have HP := Lib.hid hp
  clear hR hnl hp
  have d0 : decide ((4096 : Int) < n) = false := decide_eq_false (by omega)
  go_enter Tryz.func21, Tryz.ntmps21
  go_wp2_with fail
  go_loopg [17] n (fun q v w' => ∃ i : Nat, i + q = n ∧ v = .int .i64 i ∧ w' = w)
  case atStart => exact ⟨0, by omega, rfl, rfl⟩
  case round =>
    obtain ⟨i, hi, rfl, rfl⟩ := hrel
    by_cases hlt : i < n
    · obtain ⟨a, r, rfl, ⟨rfl, h3⟩, hA⟩ := K.out i _ (List.getElem?_eq_getElem (by have := N.out; omega))
      have hz := HP.out i _ (List.getElem?_eq_getElem (by have := N.out; omega))
      generalize ps[i]'(by have := N.out; omega) = z at *
      have p0 : (0 : Int) ≤ i := by omega
      have p1 : decide ((i : Int) < n) = true := by simpa using hlt
      have e0 := hA.c0
      rw [Nat.mul_one] at e0
      have d1 : decide (z < -1) = false := decide_eq_false (by omega)
      have d2 : decide ((n : Int) ≤ z) = false := decide_eq_false (by omega)
      go_wp2_with fail
      go_roundg (gk - 1)
      case measure => omega
      case rel => exact ⟨i + 1, by omega, rfl, rfl⟩
    · have p1 : decide ((i : Int) < n) = false := by simpa using hlt
      go_wp2_with (at_make; refine mk27 rfl _ _ rfl n _ _ rfl rfl (by omega) ?_; intro w1 HO HG)
      have HB := grown_below HG
      obtain ⟨g, hg⟩ : ∃ g, g = wr.heap.size := ⟨_, rfl⟩
      have HGS := Lib.hid hg
      rw [← hg] at HO ⊢
      obtain ⟨w0, hw0⟩ : ∃ w0, w0 = wr := ⟨_, rfl⟩
      rw [← hw0] at HB HGS K
      have HW0 := Lib.hid hw0
      clear HG hg hlt hi p1 hw0
      go_loopg [7, 37] n (fun q u v w' => ∃ lz : Int, ∃ i : Nat, ∃ xs, lz = -1 ∧ u = .int .i64 lz ∧ i + q = n ∧ v = .int .i64 i ∧ Aside (w'.ownsRow g 3 1 (.slice (some ⟨g, 0, none⟩) n n) n xs) ∧ Aside (MK xs n i n) ∧ Aside (Below g w0 w'))
      case atStart => exact ⟨-1, 0, _, rfl, rfl, by omega, rfl, ⟨HO⟩, ⟨MK.start n⟩, ⟨HB.mono (by rw [HGS.out]; exact Nat.le_refl _)⟩⟩
      case round =>
        clear HO HB
        obtain ⟨lz, i, xs, hlz, rfl, hi, rfl, HO, HM, HB⟩ := hrel
        replace hlz := Lib.hid hlz
        by_cases hlt : i < n
        · have p0 : (0 : Int) ≤ i := by omega
          have p1 : decide ((i : Int) < n) = true := by simpa using hlt
          go_wp2_with fail
          go_loopg [9] (i + 1) (fun q u w' => ∃ xs, ∃ kk : Int, u = .int .i64 kk ∧ -1 ≤ kk ∧ kk ≤ i ∧ kk + 1 = q ∧ Aside (w'.ownsRow g 3 1 (.slice (some ⟨g, 0, none⟩) n n) n xs) ∧ Aside (MK xs n i kk) ∧ Aside (Below g w0 w'))
          case atStart => exact ⟨xs, i, rfl, by omega, by omega, by omega, HO, ⟨HM.out.lower (by omega)⟩, HB⟩
          case round =>
            clear HO HM HB
            obtain ⟨xs, kk, rfl, hk1, hk2, hk3, HO, HM, HB⟩ := hrel
            by_cases hk0 : 0 ≤ kk
            · obtain ⟨j, rfl⟩ := Int.eq_ofNat_of_zero_le hk0
              obtain ⟨z, hz, z1, z2, z3⟩ := HM.out j (by omega)
              have hzi := z3 (by omega)
              have q0 := (HO.out.cellAt j (by omega)).trans hz
              have q1 := HO.out.frozenAt j
              have t0 : decide ((0 : Int) ≤ (j : Int)) = true := decide_eq_true hk0
              have t1 : decide ((j : Int) < n) = true := decide_eq_true (by omega)
              have t2 : decide ((j : Int) < 0) = false := decide_eq_false (by omega)
              by_cases hz0 : z = 0
              · subst hz0
                obtain ⟨a, r, rfl, ⟨rfl, h3⟩, hA⟩ := K.out j _ (List.getElem?_eq_getElem (by have := N.out; omega))
                have hpz := HP.out j _ (List.getElem?_eq_getElem (by have := N.out; omega))
                generalize ps[j]'(by have := N.out; omega) = zp at *
                have hlen : xs.length = n := by have := HO.out.1; omega
                have HOn := (HO.out.stored j (.int .i64 ((i : Int) + 1))).1
                have HBn := HB.out.setCell (p := ⟨g, j, none⟩) (Nat.le_refl _) (.int .i64 ((i : Int) + 1))
                have HMn := HM.out.mark hlen hpz.2
                have hc := hA.c0
                rw [Nat.mul_one] at hc
                have e1 := (HBn.cell (by have := World.block_lt_of_cell? _ _ hc; have := HGS.out; omega)).trans hc
                have RN := Lib.hid (And.intro HOn (And.intro HBn HMn))
                have hp1 := hpz.1
                have hp2 := hpz.2
                clear hA hc HOn HBn HMn hpz
                go_wp2_with fail
                go_roundg (zp + 1).toNat
                case measure => omega
                case rel => exact ⟨_, zp, rfl, by omega, by omega, by omega, ⟨RN.out.1⟩, ⟨RN.out.2.2⟩, ⟨RN.out.2.1⟩⟩
              · have t3 : (z == 0) = false := by simpa using hz0
                have t4 : (z != (i : Int) + 1) = true := by simp; omega
                go_wp2_with fail
                go_roundg (n - (i + 1))
                case measure => omega
                case rel => exact ⟨lz, i + 1, xs, hlz.out, rfl, by omega, rfl, HO, ⟨HM.out.begin _⟩, HB⟩
            · have t0 : decide ((0 : Int) ≤ kk) = false := decide_eq_false hk0
              have t2 : decide (kk < 0) = true := decide_eq_true (by omega)
              go_wp2_with fail
              go_roundg (n - (i + 1))
              case measure => omega
              case rel => exact ⟨lz, i + 1, xs, hlz.out, rfl, by omega, rfl, HO, ⟨HM.out.begin _⟩, HB⟩
        · have p1 : decide ((i : Int) < n) = false := by simpa using hlt
          have t0 : decide ((0 : Int) ≤ lz) = false := decide_eq_false (by have := hlz.out; omega)
          go_wp2_with fail
          go_ret2
          exact ⟨rfl, by rw [← HW0.out, ← HGS.out]; exact HB.out⟩
end Go.Proofs.YthjcmodhleoocaaGreatDoor.Z
/- ZAssign -/
namespace Go.Proofs.YthjcmodhleoocaaGreatDoor.Z
open Go Go.RowKit Go.Lib
set_option linter.unusedVariables false
set_option linter.unusedSimpArgs false
section
variable {P : Program} {md : Region.Mode} {ops : Array Oper} {Q : Exit → Act → World → Prop} {S : World → Prop} {m : Nat}
theorem anyOf {fuel : Nat} {l : Array Bool} {a : Act} {w : World} (i0 : Nat) (is : List Nat) (hr : Region.ready md ops l = i0 :: is) (h : ∀ i ∈ i0 :: is, wpOp P ops Q i (fun a' w' => (i ≠ m → S w') ∧ wpAnyT P md ops Q S m fuel (l.setIfInBounds i true) a' w') a w) : wpAnyT P md ops Q S m (fuel + 1) l a w :=
  ⟨fun h0 => (by rw [hr] at h0; cases h0), fun i hi => h i (by rw [hr] at hi; exact hi)⟩
theorem wpOp_of {i : Nat} {oi : Oper} {K : Act → World → Prop} {a : Act} {w : World} (hoi : ops[i]? = some oi) (hg : Region.wanted oi (yielded ops a.tmps) = true) (h : Oper.wp P oi a w K Q) : wpOp P ops Q i K a w := by
  unfold wpOp
  simp only [hoi, hg, if_true]
  exact .inl h
end
theorem wp_makeZ {T e size bytes : Nat} {z : Value} (u : Tryz.prog.underlying T = some (.slice e)) (hi : (Tryz.prog.info? e).map (fun i => (i.zero, i.size, i.bytes)) = some (some z, size, bytes)) (small : bytes ≤ 1000) {w : World} {o : Oper} {a : Act} {K : Act → World → Prop} {Q : Exit → Act → World → Prop} (l c : Operand) (hop : o.op = Op.makeSlice T l c)
    (n : Nat) (kl kc : IntKind) (hl : a.eval l = .int kl n) (hc : a.eval c = .int kc n) (hn : n ≤ 100000) (base : Nat) (hb : base ≤ w.heap.size)
    (hK : ∀ w', w'.ownsRow base e size (.slice (some ⟨w.heap.size, 0, none⟩) n n) n (madeCells z.cells (n * size)).toList → w.grownBy w' none → K (a.put o.dst (.slice (some ⟨w.heap.size, 0, none⟩) n n)) w') :
    Oper.wp Tryz.prog o a w K Q := by
  obtain ⟨i, h1, h2, h3, h4⟩ := info_parts hi
  obtain ⟨w', hrun, r1, r2⟩ := run_make_full (P := Tryz.prog) w base T e i z size u h1 h2 h3 kl kc n (by rw [h4]; exact Nat.le_trans (Nat.mul_le_mul small hn) (by omega)) (by unfold maxLen; omega) hb
  unfold Oper.wp
  simp [execOp, hop, hl, hc, hrun, Result.andThen]
  exact hK w' r1 r2
theorem own_neT {w : World} {base e size n c g b t : Nat} {xs : List Value} {cs : Array Value} (h : w.ownsRow base e size (.slice (some ⟨g, 0, none⟩) n c) n xs) (hb : w.heap[b]? = some (.cells cs t (0, 0))) (hne : e ≠ t) : g ≠ b := by
  rcases h.2 with ⟨h0, _⟩ | ⟨g', cap, cur, h0, _, hh, _⟩
  · simp at h0
  · simp only [Value.slice.injEq, Option.some.injEq, Addr.mk.injEq, and_true, true_and] at h0
    obtain ⟨rfl, rfl⟩ := h0
    rintro rfl
    rw [hh] at hb
    simp only [Option.some.injEq, Obj.cells.injEq] at hb
    exact hne hb.2.1
def zl : Value := .agg #[.int .i64 0, .int .i64 0, .int .i64 0]
/-- The two rows and the walker. -/
structure F3 (w w' : World) (n bc bl bw : Nat) : Prop where
  c : w'.ownsRow w.heap.size 27 1 (.slice (some ⟨bc, 0, none⟩) n n) n (List.replicate n (.slice none 0 0))
  l : w'.ownsRow w.heap.size 39 3 (.slice (some ⟨bl, 0, none⟩) n n) n (madeCells zl.cells (n * 3)).toList
  k : w'.heap[bw]? = some (.cells #[.slice (some ⟨bc, 0, none⟩) n n, .slice (some ⟨bl, 0, none⟩) n n, .int .i64 0, .int .i64 0] 61 (0, 0))
  b : Below w.heap.size w w'
  w : w.heap.size ≤ bw
theorem br3 {P : Program} {md : Region.Mode} {ops : Array Oper} {Q : Exit → Act → World → Prop} {S : World → Prop} {m fuel : Nat} {l : Array Bool} {a0 : Act} {w w0 : World} (n : Nat) (hP : ∀ c a d v w, Q (.panic c) (Act.put a d v) w → Q (.panic c) a w)
    (h1 : ∀ Q' : Exit → Act → World → Prop, (∀ c a d v w, Q' (.panic c) (Act.put a d v) w → Q' (.panic c) a w) → (∀ bc bl bw w', F3 w0 w' n bc bl bw → Q' .normal ((((a0.put (some 24) (.slice (some ⟨bc, 0, none⟩) n n)).put (some 27) (.slice (some ⟨bl, 0, none⟩) n n)).put (some 28) (.agg #[.slice (some ⟨bc, 0, none⟩) n n, .slice (some ⟨bl, 0, none⟩) n n, .int .i64 0, .int .i64 0])).put (some 7) (.pointer (some ⟨bw, 0, none⟩))) w') → wpAnyT P md ops Q' S m fuel l a0 w)
    (h2 : ∀ bc bl bw w', F3 w0 w' n bc bl bw → Q .normal ((((a0.put (some 24) (.slice (some ⟨bc, 0, none⟩) n n)).put (some 27) (.slice (some ⟨bl, 0, none⟩) n n)).put (some 28) (.agg #[.slice (some ⟨bc, 0, none⟩) n n, .slice (some ⟨bl, 0, none⟩) n n, .int .i64 0, .int .i64 0])).put (some 7) (.pointer (some ⟨bw, 0, none⟩))) w') : wpAnyT P md ops Q S m fuel l a0 w := h1 Q hP h2
theorem F3.of {w w3 : World} {n bc bl bw : Nat} (hc : w3.ownsRow w.heap.size 27 1 (.slice (some ⟨bc, 0, none⟩) n n) n (List.replicate n (.slice none 0 0))) (hl : w3.ownsRow w.heap.size 39 3 (.slice (some ⟨bl, 0, none⟩) n n) n (madeCells zl.cells (n * 3)).toList)
    (hk : w3.heap[bw]? = some (.cells #[.slice none 0 0, .slice none 0 0, .int .i64 0, .int .i64 0] 61 (0, 0))) (hb : Below w.heap.size w w3) (hw : w.heap.size ≤ bw) :
    F3 w ((((w3.setCell ⟨bw, 0, none⟩ (.slice (some ⟨bc, 0, none⟩) n n)).setCell ⟨bw, 1, none⟩ (.slice (some ⟨bl, 0, none⟩) n n)).setCell ⟨bw, 2, none⟩ (.int .i64 0)).setCell ⟨bw, 3, none⟩ (.int .i64 0)) n bc bl bw := by
  have n1 := own_neT hc hk (by decide)
  have n2 := own_neT hl hk (by decide)
  have e1 : ∀ i, (Value.slice (some ⟨bc, 0, none⟩) n n).ownBlock ≠ some (⟨bw, i, none⟩ : Addr).block := fun i h => n1 (by have h2 : some bc = some bw := h; exact Option.some.inj h2)
  have e2 : ∀ i, (Value.slice (some ⟨bl, 0, none⟩) n n).ownBlock ≠ some (⟨bw, i, none⟩ : Addr).block := fun i h => n2 (by have h2 : some bl = some bw := h; exact Option.some.inj h2)
  exact ⟨own_set (own_set (own_set (own_set hc (e1 0) _) (e1 1) _) (e1 2) _) (e1 3) _, own_set (own_set (own_set (own_set hl (e2 0) _) (e2 1) _) (e2 2) _) (e2 3) _,
    blk_put (blk_put (blk_put (blk_put hk 0 _ rfl) 1 _ rfl) 2 _ rfl) 3 _ rfl, (((hb.setCell (p := ⟨bw, 0, none⟩) hw _).setCell (p := ⟨bw, 1, none⟩) hw _).setCell (p := ⟨bw, 2, none⟩) hw _).setCell (p := ⟨bw, 3, none⟩) hw _, hw⟩
theorem row59 (n : Nat) : (madeCells (Value.slice none 0 0).cells (n * 1)).toList = List.replicate n (.slice none 0 0) := by rw [Nat.mul_one]; exact toList_madeCells_one _ _
end Go.Proofs.YthjcmodhleoocaaGreatDoor.Z
/- ZKids -/
namespace Go.Proofs.YthjcmodhleoocaaGreatDoor.Z
open Go Go.RowKit Go.Lib
set_option linter.unusedVariables false
set_option linter.unusedSimpArgs false
open Go.Proofs.YthjcmodhleoocaaGreatDoor.TP (kidsOf kd)
/-- The children of p before index i. -/
def kidsTo (ps : List Int) (p : Int) (i : Nat) : List Nat := (List.range' 0 i).filter (fun j => ps.getD j 0 == p)
theorem kidsTo_zero (ps : List Int) (p : Int) : kidsTo ps p 0 = [] := rfl
theorem kidsTo_hit {ps : List Int} {p : Int} {i : Nat} (h : ps.getD i 0 = p) : kidsTo ps p (i + 1) = kidsTo ps p i ++ [i] := by
  unfold kidsTo
  rw [List.range'_1_concat, List.filter_append]
  rw [List.getD_eq_getElem?_getD] at h
  simp [h]
theorem kidsTo_miss {ps : List Int} {p : Int} {i : Nat} (h : ps.getD i 0 ≠ p) : kidsTo ps p (i + 1) = kidsTo ps p i := by
  unfold kidsTo
  rw [List.range'_1_concat, List.filter_append]
  rw [List.getD_eq_getElem?_getD] at h
  simp [h]
theorem kidsTo_all (ps : List Int) (p : Int) : kidsTo ps p ps.length = kidsOf ps p := rfl
theorem kidsTo_len (ps : List Int) (p : Int) (i : Nat) : (kidsTo ps p i).length ≤ i := by
  have := List.length_filter_le (fun j => ps.getD j 0 == p) (List.range' 0 i)
  unfold kidsTo
  simp at this ⊢; omega
theorem kidsTo_of {ps : List Int} {p : Int} {i k : Nat} (h : k ∈ kidsTo ps p i) : ps.getD k 0 = p := by
  unfold kidsTo at h
  have := (List.mem_filter.1 h).2
  simpa using this
def vals (l : List Nat) : List Value := l.map fun (k : Nat) => .int .i64 (k : Int)
/-- A row of the call's own that holds the numbers l; nil where there are none. -/
def KR (base : Nat) (w : World) (v : Value) (l : List Nat) : Prop := w.ownsRow base 3 1 v l.length (vals l) ∧ (l = [] → v = .slice none 0 0)
theorem own_dT {w : World} {base e size n base' e' size' n' : Nat} {v v' : Value} {xs xs' : List Value} (h : w.ownsRow base e size v n xs) (h' : w.ownsRow base' e' size' v' n' xs') (hne : e ≠ e') : v.ownBlock = none ∨ v.ownBlock ≠ v'.ownBlock := by
  rcases h.2 with ⟨rfl, _⟩ | ⟨g, cap, cur, rfl, _, hh, _⟩
  · exact .inl rfl
  · rcases h'.2 with ⟨rfl, _⟩ | ⟨g', cap', cur', rfl, _, hh', _⟩
    · exact .inr (fun e => nomatch e)
    · refine .inr fun e => ?_
      have e2 : some g = some g' := e
      obtain rfl := Option.some.inj e2
      rw [hh] at hh'
      simp only [Option.some.injEq, Obj.cells.injEq] at hh'
      exact hne hh'.2.1
theorem KR.dis {base : Nat} {w : World} {v v' : Value} {ps : List Int} {p q : Int} {i j : Nat} (h : KR base w v (kidsTo ps p i)) (h' : KR base w v' (kidsTo ps q j)) (hne : p ≠ q) : v.ownBlock = none ∨ v.ownBlock ≠ v'.ownBlock := by
  cases e : v.ownBlock with
  | none => exact .inl rfl
  | some g =>
    refine .inr fun e' => ?_
    have n1 : kidsTo ps p i ≠ [] := fun h0 => by rw [h.2 h0] at e; cases e
    have n2 : kidsTo ps q j ≠ [] := fun h0 => by rw [h'.2 h0] at e'; cases e'
    obtain ⟨a, la, ha⟩ := List.exists_cons_of_ne_nil n1
    obtain ⟨b, lb, hb⟩ := List.exists_cons_of_ne_nil n2
    have c1 := h.1.cells e 0 (.int .i64 (a : Int)) (by rw [ha]; rfl)
    have c2 := h'.1.cells e'.symm 0 (.int .i64 (b : Int)) (by rw [hb]; rfl)
    rw [c1] at c2
    simp only [Option.some.injEq, Value.int.injEq, true_and] at c2
    have hab : a = b := by omega
    have m1 := kidsTo_of (ps := ps) (p := p) (i := i) (k := a) (by rw [ha]; exact List.mem_cons_self ..)
    have m2 := kidsTo_of (ps := ps) (p := q) (i := j) (k := b) (by rw [hb]; exact List.mem_cons_self ..)
    rw [hab] at m1
    exact hne (m1.symm.trans m2)
theorem KR.kept {base : Nat} {w w' : World} {v : Value} {l : List Nat} {row : Option Nat} (h : KR base w v l) (hg : w.grownBy w' row) (hne : v.ownBlock = none ∨ v.ownBlock ≠ row) : KR base w' v l := ⟨h.1.kept hg hne, h.2⟩
theorem KR.alloc {base : Nat} {w : World} {v : Value} {l : List Nat} (h : KR base w v l) (o : Obj) : KR base (w.alloc o) v l := ⟨h.1.alloc o, h.2⟩
theorem KR.app {base : Nat} {w : World} {v : Value} {l : List Nat} {k : Nat} (h : w.ownsRow base 3 1 v (l.length + 1) (vals l ++ [.int .i64 (k : Int)])) : KR base w v (l ++ [k]) := ⟨by simpa [vals] using h, fun h => by simp at h⟩
/-- The children's row, each child's own row, the roots' row. -/
structure KS (base : Nat) (w : World) (ps : List Int) (n bc i : Nat) (u : Value) (f : Nat → Value) : Prop where
  row : w.ownsRow base 27 1 (.slice (some ⟨bc, 0, none⟩) n n) n ((List.range n).map f)
  kid : ∀ j, j < n → KR base w (f j) (kidsTo ps (j : Int) i)
  root : KR base w u (kidsTo ps (-1) i)
theorem KS.start {base : Nat} {w : World} {ps : List Int} {n bc : Nat} (h : w.ownsRow base 27 1 (.slice (some ⟨bc, 0, none⟩) n n) n (List.replicate n (.slice none 0 0))) : KS base w ps n bc 0 (.slice none 0 0) (fun _ => .slice none 0 0) :=
  ⟨by
    have e : (List.range n).map (fun _ => Value.slice none 0 0) = List.replicate n (.slice none 0 0) := by rw [List.map_const', List.length_range]
    rw [e]; exact h, fun j hj => ⟨World.ownsRow_nil _ _ _ _, fun _ => rfl⟩, ⟨World.ownsRow_nil _ _ _ _, fun _ => rfl⟩⟩
theorem KS.alloc {base : Nat} {w : World} {ps : List Int} {n bc i : Nat} {u : Value} {f : Nat → Value} (h : KS base w ps n bc i u f) (o : Obj) : KS base (w.alloc o) ps n bc i u f := ⟨h.row.alloc o, fun j hj => (h.kid j hj).alloc o, h.root.alloc o⟩
theorem KS.drew {base : Nat} {w : World} {ps : List Int} {n bc i : Nat} {u : Value} {f : Nat → Value} (h : KS base w ps n bc i u f) : KS base w.drew ps n bc i u f := ⟨h.row, h.kid, h.root⟩
/-- A root more. -/
theorem KS.addRoot {base : Nat} {w w' : World} {ps : List Int} {n bc i : Nat} {u v' : Value} {f : Nat → Value} (h : KS base w ps n bc i u f) (hp : ps.getD i 0 = -1)
    (h7 : w'.ownsRow base 3 1 v' ((kidsTo ps (-1) i).length + 1) (vals (kidsTo ps (-1) i) ++ [.int .i64 (i : Int)])) (h8 : w.grownBy w' u.ownBlock) : KS base w' ps n bc (i + 1) v' f :=
  ⟨h.row.kept h8 (own_dT h.row h.root.1 (by decide)), fun j hj => by
    rw [kidsTo_miss (by rw [hp]; omega)]
    exact (h.kid j hj).kept h8 ((h.kid j hj).dis h.root (by omega)), by rw [kidsTo_hit hp]; exact KR.app h7⟩
theorem range_set (n p : Nat) (hp : p < n) (f : Nat → Value) (v : Value) : ((List.range n).map f).set p v = (List.range n).map (fun j => if j = p then v else f j) := by
  apply List.ext_getElem?
  intro j
  by_cases e : p = j
  · subst e
    rw [List.getElem?_set_self (by simpa using hp)]
    simp [hp]
  · rw [List.getElem?_set_ne e]
    simp only [List.getElem?_map]
    cases h : (List.range n)[j]? with
    | none => rfl
    | some k =>
      obtain ⟨h1, h2⟩ := List.getElem?_eq_some_iff.1 h
      simp at h2
      subst h2
      simp [Ne.symm e]
/-- A child more. -/
theorem KS.addKid {base : Nat} {w w' : World} {ps : List Int} {n bc i p : Nat} {u v' : Value} {f : Nat → Value} (h : KS base w ps n bc i u f) (hpn : p < n) (hp : ps.getD i 0 = (p : Int))
    (h7 : w'.ownsRow base 3 1 v' ((kidsTo ps (p : Int) i).length + 1) (vals (kidsTo ps (p : Int) i) ++ [.int .i64 (i : Int)])) (h8 : w.grownBy w' (f p).ownBlock) :
    KS base (w'.setCell ⟨bc, p, none⟩ v') ps n bc (i + 1) u (fun j => if j = p then v' else f j) := by
  have hrow := h.row.kept h8 (own_dT h.row (h.kid p hpn).1 (by decide))
  have hnb : ∀ {v : Value} {l : List Nat}, KR base w' v l → v.ownBlock ≠ some (⟨bc, p, none⟩ : Addr).block := fun {v l} hk e => by
    rcases own_dT hk.1 hrow (by decide) with h0 | h0
    · rw [h0] at e; cases e
    · exact h0 e
  refine ⟨?_, fun j hj => ?_, ?_⟩
  · rw [← range_set n p hpn]
    exact (hrow.stored p v').1
  · by_cases e : j = p
    · subst e
      simp only [if_true]
      rw [kidsTo_hit hp]
      have hk := KR.app h7
      exact ⟨own_set hk.1 (hnb hk) _, hk.2⟩
    · simp only [if_neg e]
      rw [kidsTo_miss (by rw [hp]; omega)]
      have hk := (h.kid j hj).kept h8 ((h.kid j hj).dis (h.kid p hpn) (by omega))
      exact ⟨own_set hk.1 (hnb hk) _, hk.2⟩
  · rw [kidsTo_miss (by rw [hp]; omega)]
    have hk := h.root.kept h8 (h.root.dis (h.kid p hpn) (by omega))
    exact ⟨own_set hk.1 (hnb hk) _, hk.2⟩
theorem KR.form {base : Nat} {w : World} {v : Value} {l : List Nat} (h : KR base w v l) : ∃ A c, v = .slice A l.length c := own_slice h.1
theorem KR.cell {base : Nat} {w : World} {v : Value} {l : List Nat} (h : KR base w v l) (h0 : 0 < l.length) : ∃ g c, v = .slice (some ⟨g, 0, none⟩) l.length c ∧ w.ownsRow base 3 1 (.slice (some ⟨g, 0, none⟩) l.length c) l.length (vals l) ∧ ∀ j (hj : j < l.length), w.cell? ⟨g, j, none⟩ = some (.int .i64 (l[j] : Int)) := by
  obtain ⟨m, hm⟩ : ∃ m, l.length = m + 1 := ⟨l.length - 1, by omega⟩
  have h1 := h.1
  rw [hm] at h1
  obtain ⟨g, c, hv, _, _⟩ := own_form h1
  refine ⟨g, c, by rw [hv, hm], by rw [← hm] at hv; rw [← hv]; exact h.1, fun j hj => ?_⟩
  rw [← hm] at hv
  have := h.1
  rw [hv] at this
  rw [this.cellAt j (by omega)]
  simp [vals, hj]
/-- What visit reads of the children. -/
theorem KS.kids {base : Nat} {w : World} {ps : List Int} {n bc bl bw : Nat} {u : Value} {f : Nat → Value} (h : KS base w ps n bc n u f) (hn : n = ps.length) {c1 c2 : Array Value} (hg : w.heap[bw]? = some (.cells c1 61 (0, 0))) (hl : w.heap[bl]? = some (.cells c2 39 (0, 0))) :
    Kids w bw bl (some ⟨bc, 0, none⟩) n (kd ps) := by
  intro i hi
  refine ⟨bc, 0, rfl, own_neT h.row hg (by decide), own_neT h.row hl (by decide), ?_⟩
  have hk := h.kid i hi
  have hkd : kidsTo ps (i : Int) n = kd ps i := by rw [hn]; rfl
  rw [hkd] at hk
  obtain ⟨A, c, hv⟩ := hk.form
  refine ⟨A, c, ?_, fun h0 => ?_⟩
  · rw [Nat.zero_add, h.row.cellAt i (by omega), ← hv]
    simp [hi]
  · obtain ⟨g, c', hv2, ho, hc⟩ := hk.cell (by omega)
    rw [hv] at hv2
    injection hv2 with e1 _ _
    subst e1
    exact ⟨g, 0, rfl, own_neT ho hg (by decide), own_neT ho hl (by decide), fun j hj => by rw [Nat.zero_add]; exact hc j hj⟩
/-- Labels that have just been made. -/
theorem labels0 {base : Nat} {w : World} {bl n : Nat} (h : w.ownsRow base 39 3 (.slice (some ⟨bl, 0, none⟩) n n) n (madeCells zl.cells (n * 3)).toList) : ∃ cur, w.heap[bl]? = some (.cells cur 39 (0, 0)) ∧ LCells cur (blank n).L ∧ cur.size = n * 3 := by
  have hat := fun j (hj : j < n * 3) => h.cellAt j hj
  rcases h.2 with ⟨h0, _⟩ | ⟨g, cap, cur, h0, _, hh, _, _, hs, _⟩
  · simp at h0
  · simp only [Value.slice.injEq, Option.some.injEq, Addr.mk.injEq, and_true, true_and] at h0
    obtain ⟨rfl, rfl⟩ := h0
    refine ⟨cur, hh, fun j x hx => ?_, hs⟩
    simp only [blank, List.getElem?_replicate] at hx
    split at hx
    · rename_i hj
      obtain rfl := Option.some.inj hx
      have key : ∀ d, d < 3 → cur[j * 3 + d]? = some (.int .i64 0) := fun d hd => by
        have hlt : j * 3 + d < n * 3 := by omega
        have := hat (j * 3 + d) hlt
        rw [blk_cell hh] at this
        rw [this]
        have e : (j * 3 + d) % 3 = d := by omega
        simp only [madeCells, Array.toList_map, Array.toList_range, List.getElem?_map]
        rw [show (List.range (n * 3))[j * 3 + d]? = some (j * 3 + d) by simp [hlt]]
        show some (zl.cells[(j * 3 + d) % 3]!) = _
        rw [e]
        match d, hd with
        | 0, _ => rfl
        | 1, _ => rfl
        | 2, _ => rfl
      exact ⟨key 0 (by omega), key 1 (by omega), key 2 (by omega)⟩
    · cases hx
end Go.Proofs.YthjcmodhleoocaaGreatDoor.Z
