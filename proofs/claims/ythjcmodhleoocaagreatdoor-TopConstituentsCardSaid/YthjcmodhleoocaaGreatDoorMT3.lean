/- For every corpus that comes in, TopConstituents returns true and leaves the corpus as it was; the listed variables are tied to the program's text. (Part 3.) -/
import Derived.Test.YthjcmodhleoocaaGreatDoorMT2
import Derived.Test.YthjcmodhleoocaaGreatDoorMT1
import Derived.Lib.ConvBytes
import Derived.Laws.BytesArg
import Derived.Deep.RegionHeld3
import Derived.BigRegion
import Derived.Defers
import Derived.Recover
import Derived.Deep.RegionLaw
import Derived.Deep.DeepCutAuto
import Derived.Deep.CutBlock
import Derived.Shelf.Strings.Split
import Derived.Shelf.Strings.Prefix
import Derived.Shelf.Strings.Search2
import Derived.Test.YthjcmodhleoocaaGreatDoorProg
import Derived.Deep.QuietTactic
import Derived.BigQuiet
import Derived.Below
import Derived.IntWalk
import Derived.Lib.Hide
import Derived.Shelf.RegionOpenPlain
set_option linter.unusedVariables false
set_option linter.unusedSimpArgs false
set_option linter.unusedSectionVars false
/- ZVal -/
namespace Go.Proofs.YthjcmodhleoocaaGreatDoor.Z
open Go Go.RowKit Go.Lib
set_option linter.unusedVariables false
set_option linter.unusedSimpArgs false
theorem hasNone (x : ByteArray) (w : World) : Calls Tryz.prog 124 #[.slice none 0 0, .string x] w fun e w' => e = .returned (.bool false) ∧ w' = w := by
  go_enter Tryz.func124, Tryz.ntmps124
  go_wp2
  go_loopg [9] 0 (fun q v w' => v = .int .i64 0 ∧ w' = w)
  case atStart => exact ⟨rfl, rfl⟩
  case round =>
    obtain ⟨rfl, rfl⟩ := hrel
    go_wp2
    go_ret
    exact ⟨rfl, rfl⟩
theorem sortedNone (w : World) : Calls Tryz.prog 116 #[.slice none 0 0] w fun e w' => e = .returned (.slice none 0 0) ∧ w' = w := by
  go_enter Tryz.func116, Tryz.ntmps116
  go_wp2
  go_loopg [3, 9] 0 (fun q u v w' => u = .slice none 0 0 ∧ v = .int .i64 0 ∧ w' = w)
  case atStart => exact ⟨rfl, rfl, rfl⟩
  case round =>
    obtain ⟨rfl, rfl, rfl⟩ := hrel
    go_wp2
    go_ret
    exact ⟨rfl, rfl⟩
theorem one_back {s : ByteArray} (hs : s.size = 1) : strOfNums [((s[0]'(by omega)).toNat : Int)] = s := by
  obtain ⟨⟨l⟩⟩ := s
  match l, hs with
  | [c], _ => simp [strOfNums]; rfl
set_option maxRecDepth 100000 in
/-- Unescape of one byte that is no '&' -/
theorem unesc1 (s : ByteArray) (hs : s.size = 1) (hc : byteAt s 0 ≠ 38) (w : World) : Calls Tryz.prog 90 #[.string s] w fun e w' => e = .returned (.tuple #[.string s, .int .i64 0, .int .i64 0]) ∧ Below w.heap.size w w' := by
  have hlt : 0 < s.size := by omega
  have h2 : ((s[0].toNat : Int) != 38) = true := by rw [bne_iff_ne]; rw [byteAt_lt hlt] at hc; exact hc
  have HS := Lib.hid hs
  have k1 : decide ((0 : Int) < s.size) = true := by simpa using hlt
  have k2 : decide ((1 : Int) < s.size) = false := by simp; omega
  clear hs
  go_enter Tryz.func90, Tryz.ntmps90
  go_wp2
  go_loopg [5, 6] 1 (fun q v5 v6 w' => (q = 1 ∧ v5 = .slice none 0 0 ∧ v6 = .int .i64 0 ∧ w' = w) ∨ (q = 0 ∧ v6 = .int .i64 1 ∧ w'.ownsRow w.heap.size 5 1 v5 1 [.int .u8 s[0].toNat] ∧ Below w.heap.size w w'))
  case atStart => exact .inl ⟨rfl, rfl, rfl, rfl⟩
  case round =>
    rcases hrel with ⟨rfl, rfl, rfl, rfl⟩ | ⟨rfl, rfl, ho, hb⟩
    · go_wp2_with (at_builtin; refine app el64 rfl _ _ rfl wr.heap.size rfl (World.ownsRow_nil _ _ _ _) ⟨wr.heap.size, 0, none⟩ 1 1 [.int .u8 s[0].toNat] rfl rfl (cell_one _ _ _) (fun u hu => by simp at hu; subst hu; rfl) (by omega) (by simp) ?_; intro v' w' h7 h8)
      go_roundg 0
      case measure => omega
      case rel => exact .inr ⟨rfl, rfl, h7, ((Below.refl _ _).alloc (Nat.le_refl _) _).grown h8 (by simp) (fun k hk => nomatch hk)⟩
    · have hv := ho.2
      rcases hv with ⟨_, h0⟩ | ⟨g, cap, cur, rfl, hg, hh, _⟩
      · cases h0
      have hcv := run_convert_bytes_arg (P := Tryz.prog) wr 64 5 Tryz.underlying64 Tryz.underlying5 g 0 1 cap [(s[0].toNat : Int)] rfl (fun i hi => by
        obtain rfl : i = 0 := by omega
        rw [ho.cellAt 0 (by omega)]; rfl) 9 Tryz.underlying9
      have e1 : strOfNums [(s[0].toNat : Int)] = s := one_back HS.out
      rw [e1] at hcv
      clear e1
      go_wp2
      go_ret3
      exact ⟨rfl, hb⟩
end Go.Proofs.YthjcmodhleoocaaGreatDoor.Z
/- ZValue -/
namespace Go.Proofs.YthjcmodhleoocaaGreatDoor.Z
open Go Go.RowKit Go.Lib
set_option linter.unusedVariables false
set_option linter.unusedSimpArgs false
/-- Of what was there, block b alone may have turned. -/
structure Mv (b : Nat) (w w' : World) : Prop where
  os : w'.os = w.os
  tape : w'.tape = w.tape
  output : w'.output = w.output
  size : w.heap.size ≤ w'.heap.size
  rest : ∀ k, k ≠ b → k < w.heap.size → w'.heap[k]? = w.heap[k]?
theorem Mv.refl (b : Nat) (w : World) : Mv b w w := ⟨rfl, rfl, rfl, Nat.le_refl _, fun _ _ _ => rfl⟩
theorem Mv.trans {b : Nat} {w w1 w2 : World} (h : Mv b w w1) (h' : Mv b w1 w2) : Mv b w w2 :=
  ⟨h'.os.trans h.os, h'.tape.trans h.tape, h'.output.trans h.output, Nat.le_trans h.size h'.size, fun k hk hl => (h'.rest k hk (Nat.lt_of_lt_of_le hl h.size)).trans (h.rest k hk hl)⟩
theorem Only.mv {b : Nat} {w w' : World} (h : Only b w w') : Mv b w w' := ⟨h.os, h.tape, h.output, Nat.le_of_eq h.size.symm, fun k hk _ => h.rest k hk⟩
theorem Mv.of_below (b : Nat) {w w' : World} (h : Below w.heap.size w w') : Mv b w w' := ⟨h.os, h.tape, h.output, h.size, fun k _ hl => h.block k hl⟩
theorem Mv.below {b B : Nat} {w w' : World} (h : Mv b w w') (hb : B ≤ b) (hB : B ≤ w.heap.size) : Below B w w' := ⟨h.os, h.tape, h.output, h.size, fun k hk => h.rest k (by omega) (by omega)⟩
theorem Mv.drewN {b : Nat} {w w1 : World} (h : Mv b w w1) (n : Nat) : Mv b w (w1.drewN n) := ⟨h.os, h.tape, h.output, h.size, h.rest⟩
theorem Mv.drew {b : Nat} {w w1 : World} (h : Mv b w w1) : Mv b w w1.drew := ⟨h.os, h.tape, h.output, h.size, h.rest⟩
theorem Sc.below {w w1 : World} {b k : Nat} {s : ByteArray} (h : Sc w b s k) (hb : Below w.heap.size w w1) : Sc w1 b s k := h.keep (hb.block b (blk_lt h))
/-- what region 5 keeps -/
def Sv (w0 : World) (b k : Nat) (s : ByteArray) (w : World) : Prop := Sc w b s k ∧ Mv b w0 w
set_option maxRecDepth 100000 in
theorem value (w : World) (b k : Nat) (s : ByteArray) (hm : s.size < 4294967281) (h : Sc w b s k) (x : ByteArray) (hx : s.extract k (k + 1) = x) (hx1 : x.size = 1) (hx2 : byteAt x 0 ≠ 38) (hx3 : vv x = 0)
    (h1 : byteAt s k ≠ 34) (h2 : byteAt s k ≠ 60) (h3 : byteAt s k ≠ 62) (h4 : byteAt s (k + 1) = 34) :
    Calls Tryz.prog 125 #[.pointer (some ⟨b, 0, none⟩)] w fun r w' => r = .returned (.string x) ∧ Sc w' b s (k + 2) ∧ Mv b w w' := by
  have hl : k + 1 < s.size := lt_of_byteAt h4 (by omega)
  have hk0 : k < s.size := by omega
  have H1 : (((s[k]'hk0).toNat : Int) != 34) = true := by rw [bne_iff_ne]; rw [byteAt_lt hk0] at h1; exact h1
  have H2 : (((s[k]'hk0).toNat : Int) != 60) = true := by rw [bne_iff_ne]; rw [byteAt_lt hk0] at h2; exact h2
  have H3 : (((s[k]'hk0).toNat : Int) != 62) = true := by rw [bne_iff_ne]; rw [byteAt_lt hk0] at h3; exact h3
  obtain ⟨m, hm1⟩ : ∃ m, m = k + 1 := ⟨_, rfl⟩
  have hmm := hm1
  rw [← hmm] at h4 hl hx
  have H4 : (((s[m]'hl).toNat : Int) != 34) = false := by rw [bne_eq_false_iff_eq]; rw [byteAt_lt hl] at h4; exact h4
  have HX := Lib.hid hx
  have HM := Lib.hid hmm
  have HB := Lib.hid h4
  have HX1 := Lib.hid hx1
  have HX3 := Lib.hid hx3
  have c0 := h.c0
  have c1 := h.c1
  have k0 : (0 : Int) ≤ k := by omega
  have m0 : (0 : Int) ≤ m := by omega
  have d1 : decide ((k : Int) < s.size) = true := by simp; omega
  have d2 : decide ((m : Int) < s.size) = true := by simp; omega
  clear hx hm1 hmm h4 h1 h2 h3 hx1 hx3
  go_enter Tryz.func125, Tryz.ntmps125
  go_wp2
  go_loopg [64] 1 (fun q v w' => (q = 1 ∧ w' = w) ∨ (q = 0 ∧ Aside (Sc w' b s m) ∧ Aside (Only b w w')))
  case atStart => exact .inl ⟨rfl, rfl⟩
  case round =>
    rcases hrel with ⟨rfl, rfl⟩ | ⟨rfl, HS, HO⟩
    · go_wp2
      go_quiet (fail)
      have hf := h.fr 1
      go_wp2
      go_roundg 0
      case measure => omega
      case rel => exact .inr ⟨rfl, ⟨by rw [HM.out]; exact (h.drewN _).set (k + 1)⟩, ⟨((Only.refl b wr).drewN _).set 1 _⟩⟩
    · have e0 := HS.out.c0
      have e1 := HS.out.c1
      go_wp2
      go_quiet (fail)
      go_wp2_with (go_at_call 112; refine (eat _ b m s 34 (by omega) hm (HS.out.drewN _) HB.out).mono ?_; rintro e w1 ⟨rfl, hS1, hO1⟩)
      have hO2 : Mv b w w1 := (HO.out.mv.drewN _).trans hO1.mv
      have f0 := hS1.c0
      have f1 := hS1.c1
      have hx := HX.out
      have g1 : IntKind.i64.wrap (m : Int) = m := IntWalk.i64_in _ (by omega)
      have g2 : (k : Int) ≤ m := by have := HM.out; omega
      have g3 : (m : Int) ≤ s.size := by omega
      have H6 : Aside (Sv w b (m + 1) s w1) := ⟨hS1, hO2⟩
      go_region_held3 (fun w' => w'.cell? ⟨b, 0, none⟩ = some (.string s) ∧ w'.cell? ⟨b, 1, none⟩ = some (.int .i64 ((m : Int) + 1)) ∧ Aside (Sv w b (m + 1) s w')) (first | exact ⟨f0, f1, ⟨⟨hS1, hO2.drew⟩⟩⟩ | exact ⟨(hS1.below (w := w1.drew) hb2).c0, (hS1.below (w := w1.drew) hb2).c1, ⟨⟨hS1.below (w := w1.drew) hb2, hO2.drew.trans (Mv.of_below b hb2)⟩⟩⟩)
        (first | (go_at_call 90; refine (unesc1 x HX1.out hx2 _).mono ?_; rintro e w2 ⟨rfl, hb2⟩))
      go_wp2_with (go_at_call 98; refine (mkValue_calls x _).mono ?_; rintro e w3 ⟨rfl, hb3⟩; rw [HX3.out])
      have hs2 : Aside (Sv w b (m + 1) s w2) := (by assumption : _ ∧ _ ∧ Aside (Sv w b (m + 1) s w2)).2.2
      have hmk := HM.out
      go_ret
      exact ⟨rfl, by rw [show k + 2 = m + 1 by omega]; exact hs2.out.1.below hb3, hs2.out.2.trans (Mv.of_below b hb3)⟩
end Go.Proofs.YthjcmodhleoocaaGreatDoor.Z
/- ZKey -/
namespace Go.Proofs.YthjcmodhleoocaaGreatDoor.Z
open Go Go.RowKit Go.Lib
set_option linter.unusedVariables false
set_option linter.unusedSimpArgs false
theorem Sc.alloc {w : World} {b k : Nat} {s : ByteArray} (h : Sc w b s k) (o : Obj) : Sc (w.alloc o) b s k := (Below.heap_alloc w o b (blk_lt h)).trans h
theorem Mv.alloc {b : Nat} {w w1 : World} (h : Mv b w w1) (o : Obj) : Mv b w (w1.alloc o) := h.trans (Mv.of_below b ((Below.refl _ _).alloc (Nat.le_refl _) o))
theorem Mv.set {b : Nat} {w w1 : World} (h : Mv b w w1) {p : Addr} (hp : w.heap.size ≤ p.block) (v : Value) : Mv b w (w1.setCell p v) :=
  ⟨h.os, h.tape, h.output, by simpa [World.setCell] using h.size, fun k hk hl => (Below.heap_setCell w1 p v k (by omega)).trans (h.rest k hk hl)⟩
theorem Sc.far {w : World} {b k : Nat} {s : ByteArray} (h : Sc w b s k) {p : Addr} (hp : b ≠ p.block) (v : Value) : Sc (w.setCell p v) b s k := (Below.heap_setCell w p v b hp).trans h
/-- From k the name up to e, '=', a quote, the byte x, a quote. -/
structure KeyAt (s : ByteArray) (k e : Nat) (nm x : ByteArray) : Prop where
  n1 : begB (byteAt s k) = true
  n2 : k < e ∧ e ≤ k + 32 ∧ e ≤ s.size
  n3 : ∀ p, k ≤ p → p < e → goB (byteAt s p) = true
  n4 : goB (byteAt s e) = false
  nm : s.extract k e = nm
  eq : byteAt s e = 61
  qu : byteAt s (e + 1) = 34
  v0 : s.extract (e + 2) (e + 2 + 1) = x
  v1 : x.size = 1
  v2 : byteAt x 0 ≠ 38
  v3 : vv x = 0
  v4 : byteAt s (e + 2) ≠ 34
  v5 : byteAt s (e + 2) ≠ 60
  v6 : byteAt s (e + 2) ≠ 62
  v7 : byteAt s (e + 2 + 1) = 34
set_option maxRecDepth 100000 in
theorem key (w : World) (b k e : Nat) (s nm x : ByteArray) (hm : s.size < 4294967281) (h : Sc w b s k) (K : KeyAt s k e nm x) :
    Calls Tryz.prog 115 #[.pointer (some ⟨b, 0, none⟩), .slice none 0 0] w fun r w' => r = .returned (.agg #[.string nm, .string x]) ∧ Sc w' b s (e + 4) ∧ Mv b w w' := by
  have c1 := h.c1
  have c1' : (w.alloc (.cells #[.string ⟨#[]⟩, .string ⟨#[]⟩] 105)).cell? ⟨b, 1, none⟩ = some (.int .i64 k) := (h.alloc _).c1
  have hbl := blk_lt h
  go_enter Tryz.func115, Tryz.ntmps115
  go_wp2_with (go_at_call 114; refine (name _ b k e s hm (h.alloc _) K.n1 K.n2 K.n3 K.n4).mono ?_; rintro r w1 ⟨rfl, hS1, hO1⟩; rw [K.nm])
  go_wp2_with (go_at_call 124; refine (hasNone nm w1).mono ?_; rintro r w' ⟨rfl, rfl⟩)
  refine (eat _ b e s 61 (by omega) hm hS1 K.eq).mono ?_
  rintro r w2 ⟨rfl, hS2, hO2⟩
  go_wp2_with fail
  refine (eat _ b (e + 1) s 34 (by omega) hm hS2 K.qu).mono ?_
  rintro r w3 ⟨rfl, hS3, hO3⟩
  go_wp2_with fail
  refine (value _ b (e + 2) s hm hS3 x K.v0 K.v1 K.v2 K.v3 K.v4 K.v5 K.v6 K.v7).mono ?_
  rintro r w4 ⟨rfl, hS4, hM4⟩
  have hM : Mv b (w.alloc (.cells #[.string ⟨#[]⟩, .string ⟨#[]⟩] 105)) w4 := ((hO1.mv.trans hO2.mv).trans hO3.mv).trans hM4
  have hr : w4.heap[w.heap.size]? = some (.cells #[.string ⟨#[]⟩, .string ⟨#[]⟩] 105 (0, 0)) := (hM.rest _ (by omega) (by simp)).trans (blk_new w _)
  have q0 := blk_cell hr 0
  have q1 := blk_cell hr 1
  have q2 := blk_frozen hr 0
  have q3 := blk_frozen hr 1
  simp at q0 q1
  go_wp2
  have hr2 := blk_put (blk_put hr 0 (.string nm) rfl) 1 (.string x) rfl
  have p0 := blk_cell hr2 0
  have p1 := blk_cell hr2 1
  simp at p0 p1
  have hMf : Mv b w ((w4.setCell ⟨w.heap.size, 0, none⟩ (.string nm)).setCell ⟨w.heap.size, 1, none⟩ (.string x)) :=
    ((((Mv.refl b w).alloc _).trans hM).set (Nat.le_refl _) _).set (Nat.le_refl _) _
  have hSf : Sc ((w4.setCell ⟨w.heap.size, 0, none⟩ (.string nm)).setCell ⟨w.heap.size, 1, none⟩ (.string x)) b s (e + 4) := (hS4.far (by simp; omega) _).far (by simp; omega) _
  exact bodyPost_ret (v := .agg #[.string nm, .string x]) (by simp [results, Tryz.results115, go_sem, p0, p1]) rfl ⟨rfl, hSf, hMf⟩
end Go.Proofs.YthjcmodhleoocaaGreatDoor.Z
/- ZSorted -/
namespace Go.Proofs.YthjcmodhleoocaaGreatDoor.Z
open Go Go.RowKit Go.Lib
set_option linter.unusedVariables false
set_option linter.unusedSimpArgs false
theorem el76 : El 76 105 2 32 := .mk' (z := .agg #[.string ⟨#[]⟩, .string ⟨#[]⟩]) Tryz.underlying76 (by kernel_rfl) rfl (by omega) (by omega)
theorem cell_two (w : World) (u v : Value) (t : TypeId) {n : Nat} (hn : n = w.heap.size) (j : Nat) (r : Value) (h : [u, v][j]? = some r) : (w.alloc (.cells #[u, v] t)).cell? ((⟨n, 0, none⟩ : Addr).add j) = some r := by
  subst hn
  match j, h with
  | 0, h => simpa [Addr.add] using h
  | 1, h => simpa [Addr.add] using h
/-- copy into nothing -/
theorem copy0 {T e size bytes : Nat} (E : El T e size bytes) (ty : TypeId) (A B : Option Addr) (cA n cB : Nat) (w : World) : (Builtin.copy_ #[T, T] ty #[.slice A 0 cA, .slice B n cB]).run Tryz.prog w = .ok (.int .i64 0) w := by
  obtain ⟨i, z, h2, h3, h4, h5, h6⟩ := E.i
  have hl : ∀ (x : Addr), (loadCells x 0).run Tryz.prog w = .ok #[] w := fun x => by simpa using run_loadCells_list (P := Tryz.prog) w x [] (by simp)
  have hn : Nat.min n 0 = 0 := by simp
  cases A <;> cases B <;> simp [Builtin.copy_, run_underlying E.u, Builtin.lenOf, Builtin.firstCells, sizeOf, typeInfo, h2, hn, storeCells, hl, goInt]
set_option maxRecDepth 100000 in
theorem sortedOne (g c : Nat) (nm x : ByteArray) (w : World) (h0 : w.cell? ⟨g, 0, none⟩ = some (.string nm)) (h1 : w.cell? ⟨g, 1, none⟩ = some (.string x)) :
    Calls Tryz.prog 116 #[.slice (some ⟨g, 0, none⟩) 1 c] w fun r w' => (∃ v, r = .returned v ∧ w'.ownsRow w.heap.size 105 2 v 1 [.string nm, .string x]) ∧ Below w.heap.size w w' := by
  go_enter Tryz.func116, Tryz.ntmps116
  go_wp2
  go_loopg [3, 9] 1 (fun q u v w' => (q = 1 ∧ u = .slice none 0 0 ∧ v = .int .i64 0 ∧ w' = w) ∨ (q = 0 ∧ v = .int .i64 1 ∧ w'.ownsRow w.heap.size 105 2 u 1 [.string nm, .string x] ∧ Below w.heap.size w w'))
  case atStart => exact .inl ⟨rfl, rfl, rfl, rfl⟩
  case round =>
    rcases hrel with ⟨rfl, rfl, rfl, rfl⟩ | ⟨rfl, rfl, ho, hb⟩
    · go_wp2
      go_loopg [6] 0 (fun q v6 w' => v6 = .int .i64 0 ∧ w' = wr.alloc (.cells #[.string nm, .string x] 105))
      case atStart => exact ⟨rfl, rfl⟩
      case round =>
        obtain ⟨rfl, rfl⟩ := hrel
        go_wp2
        go_quiet (fail)
        go_wp2_with (at_builtin; go_loud (refine app el76 rfl _ _ rfl wr.heap.size rfl (World.ownsRow_nil _ _ _ _) ⟨_, 0, none⟩ 1 1 [.string ⟨#[]⟩, .string ⟨#[]⟩] rfl rfl (cell_two _ _ _ _ (by simp)) (fun u hu => by simp at hu; rcases hu with rfl | rfl <;> rfl) (by omega) (by simp; omega) ?_); intro v' w' h7 h8)
        rcases h7.2 with ⟨_, e0⟩ | ⟨g', cap, cur, rfl, hg', hh, hc1, hc2, hc3, hc4⟩
        · cases e0
        have q0 := h7.cellAt 0 (by omega)
        have q1 := h7.cellAt 1 (by omega)
        have q2 := h7.frozenAt 0
        have q3 := h7.frozenAt 1
        have hcp := copy0 el76
        have hb0 : Below wr.heap.size wr w' := ((bdrewN ((Below.refl _ _).alloc (Nat.le_refl _) _) _).alloc (by simp) _).grown h8 (by simp; omega) (fun k hk => nomatch hk)
        have hp : w'.heap[wr.heap.size]? = some (.cells #[.string nm, .string x] 105 (0, 0)) := (h8.block _ (by simp; omega) (fun e => nomatch e)).trans (blk_alloc (blk_drewN (blk_new wr _) _) _)
        have p0 := blk_cell hp 0
        have p1 := blk_cell hp 1
        simp at p0 p1
        have w1 : IntKind.i64.wrap 1 = 1 := rfl
        have h9 : (w'.setCell ⟨g', 0, none⟩ (.string nm)).ownsRow wr.heap.size 105 2 (.slice (some ⟨g', 0, none⟩) 1 cap) 1 [.string nm, .string ⟨#[]⟩] := (h7.stored 0 (.string nm)).1
        have h10 := (h9.stored 1 (.string x)).1
        have hb9 : Below wr.heap.size wr ((w'.setCell ⟨g', 0, none⟩ (.string nm)).setCell ⟨g', 1, none⟩ (.string x)) := (hb0.setCell (p := ⟨g', 0, none⟩) hg' _).setCell (p := ⟨g', 1, none⟩) hg' _
        by_cases hcap : cap = 1
        · subst hcap
          go_region
          go_wp2
          go_roundg 0
          case measure => omega
          case rel => exact .inr ⟨rfl, rfl, h10, hb9.drew⟩
        · have hcap' : ¬ 1 = cap := fun h => hcap h.symm
          have hc5 : (1 : Int) ≤ cap := by omega
          go_region
          go_wp2
          go_roundg 0
          case measure => omega
          case rel => exact .inr ⟨rfl, rfl, h10, hb9.drew⟩
    · go_wp2
      go_ret
      exact ⟨⟨_, rfl, ho⟩, hb⟩
end Go.Proofs.YthjcmodhleoocaaGreatDoor.Z
/- ZTag -/
namespace Go.Proofs.YthjcmodhleoocaaGreatDoor.Z
open Go Go.RowKit Go.Lib
set_option linter.unusedVariables false
set_option linter.unusedSimpArgs false
/-- '<' name '>' -/
structure OpenAt (s : ByteArray) (e : Nat) (nm : ByteArray) : Prop where
  lt : byteAt s 0 = 60
  n1 : begB (byteAt s 1) = true
  n2 : 1 < e ∧ e ≤ 1 + 32 ∧ e ≤ s.size
  n3 : ∀ p, 1 ≤ p → p < e → goB (byteAt s p) = true
  n4 : goB (byteAt s e) = false
  nm : s.extract 1 e = nm
  gt : byteAt s e = 62
  sz : s.size = e + 1
set_option maxRecDepth 100000 in
theorem tagOpen (w : World) (b e : Nat) (s nm : ByteArray) (hm : s.size < 4294967281) (h : Sc w b s 0) (K : OpenAt s e nm) :
    Calls Tryz.prog 93 #[.pointer (some ⟨b, 0, none⟩)] w fun r w' => r = .returned (.agg #[.bool false, .string nm, .slice none 0 0]) ∧ Mv b w w' := by
  have hbl := blk_lt h
  have d1 : (byteAt s 1 == 47) = false := by
    rw [beq_eq_false_iff_ne]; intro hh; have := K.n1; rw [hh] at this; exact absurd this (by decide)
  have d2 : (byteAt s e == 32) = false := by rw [K.gt]; rfl
  go_enter Tryz.func93, Tryz.ntmps93
  go_wp2_with fail
  refine (eat _ b 0 s 60 (by omega) hm ((h.alloc _).alloc _) K.lt).mono ?_
  rintro r w1 ⟨rfl, hS1, hO1⟩
  go_wp2_with fail
  refine (sees _ b 1 s 47 (by omega) hm hS1).mono ?_
  rintro r w2 ⟨rfl, n1, rfl⟩
  rw [d1]
  go_wp2_with fail
  refine (name _ b 1 e s hm (hS1.drewN _) K.n1 K.n2 K.n3 K.n4).mono ?_
  rintro r w3 ⟨rfl, hS3, hO3⟩
  rw [K.nm]
  have hM : Mv b ((w.alloc (.cells #[.bool false, .string ⟨#[]⟩, .slice none 0 0] 112)).alloc (.cells #[.bool false, .string ⟨#[]⟩, .slice none 0 0] 112)) w3 := (hO1.mv.drewN n1).trans hO3.mv
  have hr : w3.heap[w.heap.size]? = some (.cells #[.bool false, .string ⟨#[]⟩, .slice none 0 0] 112 (0, 0)) := (hM.rest _ (by omega) (by simp; omega)).trans (blk_alloc (blk_new w _) _)
  have ht : w3.heap[w.heap.size + 1]? = some (.cells #[.bool false, .string ⟨#[]⟩, .slice none 0 0] 112 (0, 0)) := (hM.rest _ (by omega) (by simp)).trans (by simpa using blk_new (w.alloc (.cells #[.bool false, .string ⟨#[]⟩, .slice none 0 0] 112)) (.cells #[.bool false, .string ⟨#[]⟩, .slice none 0 0] 112))
  obtain ⟨tb, htb⟩ : ∃ tb, tb = w.heap.size + 1 := ⟨_, rfl⟩
  have HT := Lib.hid htb
  rw [← htb] at ht
  have t0 := blk_cell ht 1
  have t1 := blk_frozen ht 1
  simp at t0
  have ht4 := blk_put ht 1 (.string nm) rfl
  rw [← htb]
  have hS4 : Sc (w3.setCell ⟨tb, 1, none⟩ (.string nm)) b s e := hS3.far (by simp; omega) _
  have hM4 : Mv b w (w3.setCell ⟨tb, 1, none⟩ (.string nm)) := ((((Mv.refl b w).alloc _).alloc _).trans hM).set (by simp; omega) _
  have hr4 : (w3.setCell ⟨tb, 1, none⟩ (.string nm)).heap[w.heap.size]? = some (.cells #[.bool false, .string ⟨#[]⟩, .slice none 0 0] 112 (0, 0)) := blk_far hr (by simp; omega) _
  clear htb
  go_wp2_with fail
  generalize w3.setCell ⟨tb, 1, none⟩ (.string nm) = w4 at *
  have u0 := blk_cell ht4 0
  have u1 := blk_cell ht4 1
  have u2 := blk_cell ht4 2
  have u3 := blk_frozen ht4 2
  simp at u0 u1 u2
  go_loopg [25] 0 (fun q v w' => w' = w4)
  case atStart => rfl
  case round =>
    obtain rfl := hrel
    go_wp2_with fail
    refine (sees _ b e s 32 (by omega) hm hS4).mono ?_
    rintro r w5 ⟨rfl, n5, rfl⟩
    rw [d2]
    go_wp2_with fail
    refine (eat _ b e s 62 (by omega) hm (hS4.drewN _) K.gt).mono ?_
    rintro r w6 ⟨rfl, hS6, hO6⟩
    have ht6 := (hO6.rest tb (by have := HT.out; omega)).trans (blk_drewN ht4 n5)
    have hr6 := (hO6.rest w.heap.size (by omega)).trans (blk_drewN hr4 n5)
    have hM6 : Mv b w w6 := (hM4.drewN n5).trans hO6.mv
    have c0 := hS6.c0
    have c1 := hS6.c1
    have d3 : decide (((e : Int) + 1) < s.size) = false := by have := K.sz; simp; omega
    have x0 := blk_cell ht6 0
    have x1 := blk_cell ht6 1
    have x2 := blk_cell ht6 2
    have x3 := blk_frozen ht6 2
    have y0 := blk_cell hr6 0
    have y1 := blk_cell hr6 1
    have y2 := blk_cell hr6 2
    have y3 := blk_frozen hr6 0
    have y4 := blk_frozen hr6 1
    have y5 := blk_frozen hr6 2
    have ne1 : ¬ tb = w.heap.size := by have := HT.out; omega
    have ne2 : ¬ w.heap.size = tb := by have := HT.out; omega
    simp at x0 x1 x2 y0 y1 y2
    clear u0 u1 u2 u3
    go_wp2
    go_quiet (fail)
    go_wp2_with (go_at_call 116; refine (sortedNone _).mono ?_; rintro r w7 ⟨rfl, rfl⟩)
    have := HT.out
    have hf := blk_put (blk_put (blk_put (blk_far (p := ⟨tb, 2, none⟩) (blk_drewN hr6 nq) ne2 (.slice none 0 0)) 0 (.bool false) rfl) 1 (.string nm) rfl) 2 (.slice none 0 0) rfl
    have z0 := blk_cell hf 0
    have z1 := blk_cell hf 1
    have z2 := blk_cell hf 2
    simp at z0 z1 z2
    have hMf := ((((hM6.drewN nq).set (p := ⟨tb, 2, none⟩) (by simp; omega) (.slice none 0 0)).set (p := ⟨w.heap.size, 0, none⟩) (by simp) (.bool false)).set (p := ⟨w.heap.size, 1, none⟩) (by simp) (.string nm)).set (p := ⟨w.heap.size, 2, none⟩) (by simp) (.slice none 0 0)
    exact bodyPost_ret (v := .agg #[.bool false, .string nm, (.slice none 0 0)]) (by simp [results, Tryz.results93, go_sem, z0, z1, z2]) rfl ⟨rfl, hMf⟩
/-- '<' '/' name '>' -/
structure CloseAt (s : ByteArray) (e : Nat) (nm : ByteArray) : Prop where
  lt : byteAt s 0 = 60
  sl : byteAt s 1 = 47
  n1 : begB (byteAt s 2) = true
  n2 : 2 < e ∧ e ≤ 2 + 32 ∧ e ≤ s.size
  n3 : ∀ p, 2 ≤ p → p < e → goB (byteAt s p) = true
  n4 : goB (byteAt s e) = false
  nm : s.extract 2 e = nm
  gt : byteAt s e = 62
  sz : s.size = e + 1
set_option maxRecDepth 100000 in
theorem tagClose (w : World) (b e : Nat) (s nm : ByteArray) (hm : s.size < 4294967281) (h : Sc w b s 0) (K : CloseAt s e nm) :
    Calls Tryz.prog 93 #[.pointer (some ⟨b, 0, none⟩)] w fun r w' => r = .returned (.agg #[.bool true, .string nm, .slice none 0 0]) ∧ Mv b w w' := by
  have hbl := blk_lt h
  have d1 : (byteAt s 1 == 47) = true := by rw [K.sl]; rfl
  go_enter Tryz.func93, Tryz.ntmps93
  go_wp2_with fail
  refine (eat _ b 0 s 60 (by omega) hm ((h.alloc _).alloc _) K.lt).mono ?_
  rintro r w1 ⟨rfl, hS1, hO1⟩
  go_wp2_with fail
  refine (sees _ b 1 s 47 (by omega) hm hS1).mono ?_
  rintro r w2 ⟨rfl, n1, rfl⟩
  rw [d1]
  obtain ⟨ta, hta⟩ : ∃ ta, ta = w.heap.size + 1 := ⟨_, rfl⟩
  have HTA := Lib.hid hta
  have hM1 : Mv b ((w.alloc (.cells #[.bool false, .string ⟨#[]⟩, .slice none 0 0] 112)).alloc (.cells #[.bool false, .string ⟨#[]⟩, .slice none 0 0] 112)) (w1.drewN n1) := hO1.mv.drewN n1
  have ha1 : (w1.drewN n1).heap[ta]? = some (.cells #[.bool false, .string ⟨#[]⟩, .slice none 0 0] 112 (0, 0)) := by
    rw [hta]; exact (hM1.rest _ (by omega) (by simp)).trans (by simpa using blk_new (w.alloc (.cells #[.bool false, .string ⟨#[]⟩, .slice none 0 0] 112)) (.cells #[.bool false, .string ⟨#[]⟩, .slice none 0 0] 112))
  have hb1 : (w1.drewN n1).heap[w.heap.size]? = some (.cells #[.bool false, .string ⟨#[]⟩, .slice none 0 0] 112 (0, 0)) := (hM1.rest _ (by omega) (by simp; omega)).trans (blk_alloc (blk_new w _) _)
  rw [← hta]
  have hne : ta ≠ b := by omega
  have hne' : ¬ b = ta := by omega
  have hS1' : Sc (w1.drewN n1) b s 1 := hS1
  clear hta
  generalize w1.drewN n1 = w2 at *
  have a0 := blk_cell ha1 0
  have a1 := blk_frozen ha1 0
  have a2 := hS1'.c1
  have a3 := hS1'.fr 1
  simp at a0
  go_wp2_with fail
  have hS2 : Sc ((w2.setCell ⟨b, 1, none⟩ (.int .i64 2)).setCell ⟨ta, 0, none⟩ (.bool true)) b s 2 := (hS1'.set 2).far hne' _
  have hM2 : Mv b w ((w2.setCell ⟨b, 1, none⟩ (.int .i64 2)).setCell ⟨ta, 0, none⟩ (.bool true)) := ((((Mv.refl b w).alloc _).alloc _).trans (hM1.trans ((Only.refl b w2).set 1 _).mv)).set (by have := HTA.out; simp; omega) _
  have ha2 := blk_put (blk_far (p := ⟨b, 1, none⟩) ha1 hne (.int .i64 2)) 0 (.bool true) rfl
  have hb2 := blk_far (p := ⟨ta, 0, none⟩) (blk_far (p := ⟨b, 1, none⟩) hb1 (by simp; omega) (.int .i64 2)) (by have := HTA.out; simp; omega) (.bool true)
  refine (name _ b 2 e s hm hS2 K.n1 K.n2 K.n3 K.n4).mono ?_
  rintro r w3 ⟨rfl, hS3, hO3⟩
  rw [K.nm]
  have hM : Mv b w w3 := hM2.trans hO3.mv
  have hr := (hO3.rest w.heap.size (by omega)).trans hb2
  have ht := (hO3.rest ta hne).trans ha2
  rw [HTA.out] at ht ⊢
  obtain ⟨tb, htb⟩ : ∃ tb, tb = w.heap.size + 1 := ⟨_, rfl⟩
  have HT := Lib.hid htb
  rw [← htb] at ht
  have t0 := blk_cell ht 1
  have t1 := blk_frozen ht 1
  simp at t0
  have ht4 := blk_put ht 1 (.string nm) rfl
  rw [← htb]
  have hS4 : Sc (w3.setCell ⟨tb, 1, none⟩ (.string nm)) b s e := hS3.far (by simp; omega) _
  have hM4 : Mv b w (w3.setCell ⟨tb, 1, none⟩ (.string nm)) := hM.set (by simp; omega) _
  have hr4 : (w3.setCell ⟨tb, 1, none⟩ (.string nm)).heap[w.heap.size]? = some (.cells #[.bool false, .string ⟨#[]⟩, .slice none 0 0] 112 (0, 0)) := blk_far hr (by simp; omega) _
  clear htb
  go_wp2_with fail
  generalize w3.setCell ⟨tb, 1, none⟩ (.string nm) = w4 at *
  have u0 := blk_cell ht4 0
  have u1 := blk_cell ht4 1
  have u2 := blk_cell ht4 2
  have u3 := blk_frozen ht4 2
  simp at u0 u1 u2
  go_loopg [25] 0 (fun q v w' => w' = w4)
  case atStart => rfl
  case round =>
    obtain rfl := hrel
    go_wp2_with fail
    refine (eat _ b e s 62 (by omega) hm hS4 K.gt).mono ?_
    rintro r w6 ⟨rfl, hS6, hO6⟩
    have ht6 := (hO6.rest tb (by have := HT.out; omega)).trans ht4
    have hr6 := (hO6.rest w.heap.size (by omega)).trans hr4
    have hM6 : Mv b w w6 := hM4.trans hO6.mv
    have c0 := hS6.c0
    have c1 := hS6.c1
    have d3 : decide (((e : Int) + 1) < s.size) = false := by have := K.sz; simp; omega
    have x0 := blk_cell ht6 0
    have x1 := blk_cell ht6 1
    have x2 := blk_cell ht6 2
    have x3 := blk_frozen ht6 2
    have y0 := blk_cell hr6 0
    have y1 := blk_cell hr6 1
    have y2 := blk_cell hr6 2
    have y3 := blk_frozen hr6 0
    have y4 := blk_frozen hr6 1
    have y5 := blk_frozen hr6 2
    have ne1 : ¬ tb = w.heap.size := by have := HT.out; omega
    have ne2 : ¬ w.heap.size = tb := by have := HT.out; omega
    simp at x0 x1 x2 y0 y1 y2
    clear u0 u1 u2 u3
    go_wp2
    go_quiet (fail)
    go_wp2_with (go_at_call 116; refine (sortedNone _).mono ?_; rintro r w7 ⟨rfl, rfl⟩)
    have := HT.out
    have hf := blk_put (blk_put (blk_put (blk_far (p := ⟨tb, 2, none⟩) (blk_drewN hr6 nq) ne2 (.slice none 0 0)) 0 (.bool true) rfl) 1 (.string nm) rfl) 2 (.slice none 0 0) rfl
    have z0 := blk_cell hf 0
    have z1 := blk_cell hf 1
    have z2 := blk_cell hf 2
    simp at z0 z1 z2
    have hMf := ((((hM6.drewN nq).set (p := ⟨tb, 2, none⟩) (by simp; omega) (.slice none 0 0)).set (p := ⟨w.heap.size, 0, none⟩) (by simp) (.bool true)).set (p := ⟨w.heap.size, 1, none⟩) (by simp) (.string nm)).set (p := ⟨w.heap.size, 2, none⟩) (by simp) (.slice none 0 0)
    exact bodyPost_ret (v := .agg #[.bool true, .string nm, (.slice none 0 0)]) (by simp [results, Tryz.results93, go_sem, z0, z1, z2]) rfl ⟨rfl, hMf⟩
end Go.Proofs.YthjcmodhleoocaaGreatDoor.Z
/- ZTagKey -/
namespace Go.Proofs.YthjcmodhleoocaaGreatDoor.Z
open Go Go.RowKit Go.Lib
set_option linter.unusedVariables false
set_option linter.unusedSimpArgs false
theorem step_app {T e size bytes : Nat} (E : El T e size bytes) {w : World} {ops : Array Oper} {o : Oper} {a : Act} {K : Act → World → Prop} {Q : Exit → Act → World → Prop} {E' : Prop} (hgd : o.guard = none) (s x : Operand)
    (ho : o.op = .call { callee := .builtin .append, args := #[s, x], argTypes := #[T, T] }) (base : Nat) {v : Value} {n : Nat} {xs : List Value} (hs : a.eval s = v) (hown : w.ownsRow base e size v n xs)
    (ad : Addr) (m c : Nat) (news : List Value) (hx : a.eval x = .slice (some ad) m c) (hl : news.length = m * size) (hnews : ∀ j u, news[j]? = some u → w.cell? (ad.add j) = some u) (h1 : ∀ u ∈ news, u.oneCell' = true)
    (hn : n + m ≤ 100000) (hbase : base ≤ w.heap.size)
    (h : ∀ v' w', w'.ownsRow base e size v' (n + m) (xs ++ news) → w.grownBy w' v.ownBlock → K (a.put o.dst v') w') : if Region.wanted o (yielded ops a.tmps) = true then Oper.wp Tryz.prog o a w K Q else E' := by
  obtain ⟨i, z, h2, h3, h4, h5, h6⟩ := E.i
  rw [if_pos (by simp [Region.wanted, hgd])]
  exact wp_append_own w s x T ho base e i z size bytes E.u h2 h3 h4 h5 h6 E.pos v n xs hs hown ad m c news hx hl hnews h1 (by unfold maxLen; omega)
    (Nat.le_trans (Nat.mul_le_mul hn E.small) (by omega)) hbase (fun v' w' h7 h8 _ => h v' w' h7 h8)
theorem own_move {w w1 : World} {base : Nat} {e : TypeId} {size n : Nat} {v : Value} {xs : List Value} (h : w.ownsRow base e size v n xs) (hm : ∀ k, v.ownBlock = some k → w1.heap[k]? = w.heap[k]?) : w1.ownsRow base e size v n xs := by
  obtain ⟨h1, h2⟩ := h
  refine ⟨h1, ?_⟩
  rcases h2 with h2 | ⟨g, cap, cur, rfl, hg, hh, r⟩
  · exact .inl h2
  · exact .inr ⟨g, cap, cur, rfl, hg, (hm g (by simp [Value.ownBlock])).trans hh, r⟩
theorem own_set {w : World} {base : Nat} {e : TypeId} {size n : Nat} {v : Value} {xs : List Value} (h : w.ownsRow base e size v n xs) {p : Addr} (hm : v.ownBlock ≠ some p.block) (u : Value) : (w.setCell p u).ownsRow base e size v n xs :=
  own_move h (fun k hk => Below.heap_setCell w p u k (fun e => hm (by rw [hk, e])))
theorem own_lower {w : World} {base base' : Nat} {e : TypeId} {size n : Nat} {v : Value} {xs : List Value} (h : w.ownsRow base e size v n xs) (hb : base' ≤ base) : w.ownsRow base' e size v n xs := by
  obtain ⟨h1, h2⟩ := h
  refine ⟨h1, ?_⟩
  rcases h2 with h2 | ⟨g, cap, cur, rfl, hg, r⟩
  · exact .inl h2
  · exact .inr ⟨g, cap, cur, rfl, Nat.le_trans hb hg, r⟩
theorem own_form {w : World} {base e size n : Nat} {v : Value} {xs : List Value} (h : w.ownsRow base e size v (n + 1) xs) : ∃ g cap, v = .slice (some ⟨g, 0, none⟩) (n + 1) cap ∧ base ≤ g ∧ g < w.heap.size := by
  rcases h.2 with ⟨_, e0⟩ | ⟨g, cap, cur, hv, hg, hh, _⟩
  · cases e0
  · exact ⟨g, cap, hv, hg, (h.lt g (by rw [hv]; rfl)).2⟩
/-- '<' name ' ' -/
structure TagAt (s : ByteArray) (e : Nat) (nm : ByteArray) : Prop where
  lt : byteAt s 0 = 60
  n1 : begB (byteAt s 1) = true
  n2 : 1 < e ∧ e ≤ 1 + 32 ∧ e ≤ s.size
  n3 : ∀ p, 1 ≤ p → p < e → goB (byteAt s p) = true
  n4 : goB (byteAt s e) = false
  nm : s.extract 1 e = nm
  sp : byteAt s e = 32
set_option maxRecDepth 100000 in
set_option maxHeartbeats 4000000 in
theorem tagKey (w : World) (b e e2 : Nat) (s nm kn x : ByteArray) (hm : s.size < 4294967281) (h : Sc w b s 0) (K : TagAt s e nm) (K2 : KeyAt s (e + 1) e2 kn x) (hgt : byteAt s (e2 + 4) = 62) (hsz : s.size = e2 + 5) :
    Calls Tryz.prog 93 #[.pointer (some ⟨b, 0, none⟩)] w fun r w' => ∃ v, r = .returned (.agg #[.bool false, .string nm, v]) ∧ w'.ownsRow w.heap.size 105 2 v 1 [.string kn, .string x] ∧ Mv b w w' := by
  have hbl := blk_lt h
  have d1 : (byteAt s 1 == 47) = false := by
    rw [beq_eq_false_iff_ne]; intro hh; have := K.n1; rw [hh] at this; exact absurd this (by decide)
  have d2 : (byteAt s e == 32) = true := by rw [K.sp]; rfl
  have d4 : (byteAt s (e + 1) == 32) = false := by
    rw [beq_eq_false_iff_ne]; intro hh; have := K2.n1; rw [hh] at this; exact absurd this (by decide)
  have HSZ := Lib.hid hsz
  clear hsz
  go_enter Tryz.func93, Tryz.ntmps93
  go_wp2_with fail
  refine (eat _ b 0 s 60 (by omega) hm ((h.alloc _).alloc _) K.lt).mono ?_
  rintro r w1 ⟨rfl, hS1, hO1⟩
  go_wp2_with fail
  refine (sees _ b 1 s 47 (by omega) hm hS1).mono ?_
  rintro r w2 ⟨rfl, n1, rfl⟩
  rw [d1]
  go_wp2_with fail
  refine (name _ b 1 e s hm (hS1.drewN _) K.n1 K.n2 K.n3 K.n4).mono ?_
  rintro r w3 ⟨rfl, hS3, hO3⟩
  rw [K.nm]
  have hM : Mv b ((w.alloc (.cells #[.bool false, .string ⟨#[]⟩, .slice none 0 0] 112)).alloc (.cells #[.bool false, .string ⟨#[]⟩, .slice none 0 0] 112)) w3 := (hO1.mv.drewN n1).trans hO3.mv
  have hr : w3.heap[w.heap.size]? = some (.cells #[.bool false, .string ⟨#[]⟩, .slice none 0 0] 112 (0, 0)) := (hM.rest _ (by omega) (by simp; omega)).trans (blk_alloc (blk_new w _) _)
  have ht : w3.heap[w.heap.size + 1]? = some (.cells #[.bool false, .string ⟨#[]⟩, .slice none 0 0] 112 (0, 0)) := (hM.rest _ (by omega) (by simp)).trans (by simpa using blk_new (w.alloc (.cells #[.bool false, .string ⟨#[]⟩, .slice none 0 0] 112)) (.cells #[.bool false, .string ⟨#[]⟩, .slice none 0 0] 112))
  obtain ⟨tb, htb⟩ : ∃ tb, tb = w.heap.size + 1 := ⟨_, rfl⟩
  have HT := Lib.hid htb
  rw [← htb] at ht
  have t0 := blk_cell ht 1
  have t1 := blk_frozen ht 1
  simp at t0
  have ht4 := blk_put ht 1 (.string nm) rfl
  rw [← htb]
  have hS4 : Sc (w3.setCell ⟨tb, 1, none⟩ (.string nm)) b s e := hS3.far (by simp; omega) _
  have hM4 : Mv b w (w3.setCell ⟨tb, 1, none⟩ (.string nm)) := ((((Mv.refl b w).alloc _).alloc _).trans hM).set (by simp; omega) _
  have hr4 : (w3.setCell ⟨tb, 1, none⟩ (.string nm)).heap[w.heap.size]? = some (.cells #[.bool false, .string ⟨#[]⟩, .slice none 0 0] 112 (0, 0)) := blk_far hr (by simp; omega) _
  clear htb
  go_wp2_with fail
  generalize w3.setCell ⟨tb, 1, none⟩ (.string nm) = w4 at *
  have u0 := blk_cell ht4 0
  have u1 := blk_cell ht4 1
  have u2 := blk_cell ht4 2
  have u3 := blk_frozen ht4 2
  simp at u0 u1 u2
  go_loopg [25] 1 (fun q v w' => (q = 1 ∧ w' = w4) ∨ (q = 0 ∧ ∃ kv : Value, Aside (w'.heap[tb]? = some (.cells #[.bool false, .string nm, kv] 112 (0, 0)) ∧ w'.ownsRow w.heap.size 105 2 kv 1 [.string kn, .string x] ∧ kv.ownBlock ≠ some tb ∧ Sc w' b s (e2 + 4) ∧
      w'.heap[w.heap.size]? = some (.cells #[.bool false, .string ⟨#[]⟩, .slice none 0 0] 112 (0, 0)) ∧ kv.ownBlock ≠ some w.heap.size ∧ Mv b w w')))
  case atStart => exact .inl ⟨rfl, rfl⟩
  case round =>
    rcases hrel with ⟨rfl, rfl⟩ | ⟨rfl, kv, HA⟩
    · go_wp2_with fail
      refine (sees _ b e s 32 (by omega) hm hS4).mono ?_
      rintro r w5 ⟨rfl, n5, rfl⟩
      rw [d2]
      go_wp2_with fail
      go_loopg [27] 1 (fun q v w' => (q = 1 ∧ ∃ n, w' = wr.drewN n) ∨ (q = 0 ∧ Aside (Only b wr w' ∧ Sc w' b s (e + 1))))
      case atStart => exact .inl ⟨rfl, _, rfl⟩
      case round =>
        rcases hrel with ⟨rfl, n6, rfl⟩ | ⟨rfl, HB⟩
        · go_wp2_with fail
          refine (sees _ b e s 32 (by omega) hm (hS4.drewN _)).mono ?_
          rintro r w7 ⟨rfl, n7, rfl⟩
          rw [d2]
          have v1 := (hS4.drewN n6).drewN n7
          have e33 : e ≤ 33 := by have := K.n2; omega
          have v2 := hS4.c1
          have v3 := hS4.fr 1
          go_wp2
          go_roundg 0
          case measure => omega
          case rel => exact .inr ⟨rfl, ⟨(((Only.refl b wr).drewN _).set 1 _), v1.set (e + 1)⟩⟩
        · obtain ⟨hO8, hS8⟩ := HB.out
          go_wp2_with fail
          refine (sees _ b (e + 1) s 32 (by omega) hm hS8).mono ?_
          rintro r w9 ⟨rfl, n9, rfl⟩
          rw [d4]
          go_wp2_with fail
          have hne : w.heap.size < tb := by have := HT.out; omega
          have hT := (hO8.rest tb (by omega)).trans ht4
          have hR := (hO8.rest w.heap.size (by omega)).trans hr4
          have hM8 : Mv b w wr := hM4.trans hO8.mv
          generalize hgen : wr.drewN n9 = w10
          have hT : w10.heap[tb]? = some (.cells #[.bool false, .string nm, .slice none 0 0] 112 (0, 0)) := by rw [← hgen]; exact hT
          have hR : w10.heap[w.heap.size]? = some (.cells #[.bool false, .string ⟨#[]⟩, .slice none 0 0] 112 (0, 0)) := by rw [← hgen]; exact hR
          have hM8 : Mv b w w10 := by rw [← hgen]; exact hM8.drewN n9
          have hS8 : Sc w10 b s (e + 1) := by rw [← hgen]; exact hS8
          clear hgen
          have u2 := blk_cell hT 2
          simp at u2
          go_region_law (first
            | (go_simp; go_at_call 115; refine (key w10.drew b (e + 1) e2 s kn x hm hS8 K2).mono ?_; rintro r w11 ⟨rfl, hS11, hM11⟩; have hT11 : w11.heap[tb]? = some (.cells #[.bool false, .string nm, .slice none 0 0] 112 (0, 0)) := (hM11.rest tb (by omega) (blk_lt hT)).trans hT; have u11 := blk_cell hT11 2; have f11 := blk_frozen hT11 2; simp at u11; have hz11 : w10.heap.size ≤ w11.heap.size := hM11.size; have hz10 := hM8.size; have m11 : ∀ o, (w11.alloc o).cell? ⟨tb, 2, none⟩ = some (.slice none 0 0) := fun o => (World.cell?_of_block (Below.heap_alloc w11 o tb (blk_lt hT11))).trans u11)
            | (refine step_app el76 rfl (.tmp 36) (.tmp 41) rfl w11.heap.size (v := .slice none 0 0) (by simp [Act.eval, Act.put]) (World.ownsRow_nil _ _ _ _) ⟨_, 0, none⟩ 1 1 [.string kn, .string x] (by simp [Act.eval, Act.put]) rfl (cell_two _ _ _ _ rfl) (fun u hu => by simp at hu; rcases hu with rfl | rfl <;> rfl) (by omega) (by simp) ?_; intro v' w12 h7 h8; obtain ⟨g', cap, hv', hg', hgz⟩ := own_form h7; subst hv'; have hT12 : w12.heap[tb]? = some (.cells #[.bool false, .string nm, .slice none 0 0] 112 (0, 0)) := (h8.block tb (by have := blk_lt hT11; simp; omega) (fun e => nomatch e)).trans (blk_alloc hT11 _); have u12 := blk_cell hT12 2; have f12 := blk_frozen hT12 2; simp at u12))
          all_goals
            have hb12 : Below w11.heap.size w11 w12 := ((Below.refl _ w11).alloc (Nat.le_refl _) (.cells #[.string kn, .string x] 105)).grown h8 (by simp) (fun k hk => nomatch hk)
            have htl := blk_lt hT11
            have hS12 : Sc w12 b s (e2 + 4) := hS11.below hb12
            have hR12 : w12.heap[w.heap.size]? = some (.cells #[.bool false, .string ⟨#[]⟩, .slice none 0 0] 112 (0, 0)) := (hb12.block _ (by omega)).trans ((hM11.rest w.heap.size (by omega) (blk_lt hR)).trans hR)
            have hM12 : Mv b w w12 := (hM8.drew.trans hM11).trans (Mv.of_below b hb12)
            go_wp2
            go_roundg 0
            case measure => omega
            case rel => exact .inr ⟨rfl, _, ⟨⟨blk_put hT12 2 _ rfl, own_set (own_lower h7 (by omega)) (by simp [Value.ownBlock]; omega) _, by simp [Value.ownBlock]; omega, hS12.far (by simp; omega) _, blk_far hR12 (by simp; omega) _, by simp [Value.ownBlock]; omega, hM12.set (by simp; omega) _⟩⟩⟩
    · obtain ⟨hT, ho, n1, hS, hR, n2, hM0⟩ := HA.out
      clear hM HA u0 u1 u2 u3
      obtain ⟨g, kc, hkv, hg, hgl⟩ := own_form ho
      rw [hkv] at hT ho n1 n2
      clear hkv kv
      have d5 : (byteAt s (e2 + 4) == 32) = false := by rw [hgt]; rfl
      have k0 := ho.cellAt 0 (by omega)
      have k1 := ho.cellAt 1 (by omega)
      simp at k0 k1
      have u0 := blk_cell hT 0
      simp at u0
      go_wp2_with fail
      refine (sees _ b (e2 + 4) s 32 (by omega) hm hS).mono ?_
      rintro r w5 ⟨rfl, n5, rfl⟩
      rw [d5]
      go_wp2_with fail
      refine (eat _ b (e2 + 4) s 62 (by omega) hm (hS.drewN _) hgt).mono ?_
      rintro r w6 ⟨rfl, hS6, hO6⟩
      have ht6 := (hO6.rest tb (by have := HT.out; omega)).trans (blk_drewN hT n5)
      have hr6 := (hO6.rest w.heap.size (by omega)).trans (blk_drewN hR n5)
      have hM6 : Mv b w w6 := (hM0.drewN n5).trans hO6.mv
      have hgb : g ≠ b := by omega
      have k6 := (World.cell?_of_block (a := ⟨g, 0, none⟩) (hO6.rest g hgb)).trans k0
      have k7 := (World.cell?_of_block (a := ⟨g, 1, none⟩) (hO6.rest g hgb)).trans k1
      have c0 := hS6.c0
      have c1 := hS6.c1
      have d3 : decide (((e2 : Int) + 4 + 1) < s.size) = false := by have := HSZ.out; simp; omega
      have x0 := blk_cell ht6 0
      have x1 := blk_cell ht6 1
      have x2 := blk_cell ht6 2
      have x3 := blk_frozen ht6 2
      have ne1 : ¬ tb = w.heap.size := by have := HT.out; omega
      have ne2 : ¬ w.heap.size = tb := by have := HT.out; omega
      simp at x0 x1 x2
      go_wp2
      go_quiet (fail)
      go_wp2_with (go_at_call 116; refine (sortedOne g kc kn x _ (by simpa using k6) (by simpa using k7)).mono ?_; rintro r w7 ⟨⟨v7, rfl, ho7⟩, hb7⟩; obtain ⟨g7, c7, hv7, hg7, hgl7⟩ := own_form ho7; subst hv7; have ht7 := (hb7.block tb (blk_lt ht6)).trans (blk_drewN ht6 nq); have hr7 := (hb7.block w.heap.size (blk_lt hr6)).trans (blk_drewN hr6 nq); have x0 := blk_cell ht7 0; have x1 := blk_cell ht7 1; have x2 := blk_cell ht7 2; have x3 := blk_frozen ht7 2; have y0 := blk_cell hr7 0; have y1 := blk_cell hr7 1; have y2 := blk_cell hr7 2; have y3 := blk_frozen hr7 0; have y4 := blk_frozen hr7 1; have y5 := blk_frozen hr7 2; simp at x0 x1 x2 y0 y1 y2)
      have htl6 : tb < g7 := Nat.lt_of_lt_of_le (blk_lt ht6) hg7
      have hht := HT.out
      have hf := blk_put (blk_put (blk_put (blk_far (p := ⟨tb, 2, none⟩) hr7 ne2 (.slice (some ⟨g7, 0, none⟩) 1 c7)) 0 (.bool false) rfl) 1 (.string nm) rfl) 2 (.slice (some ⟨g7, 0, none⟩) 1 c7) rfl
      have z0 := blk_cell hf 0
      have z1 := blk_cell hf 1
      have z2 := blk_cell hf 2
      simp at z0 z1 z2
      have hM7 : Mv b w w7 := (hM6.drewN nq).trans (Mv.of_below b hb7)
      have hMf := (((hM7.set (p := ⟨tb, 2, none⟩) (by simp; omega) (.slice (some ⟨g7, 0, none⟩) 1 c7)).set (p := ⟨w.heap.size, 0, none⟩) (by simp) (.bool false)).set (p := ⟨w.heap.size, 1, none⟩) (by simp) (.string nm)).set (p := ⟨w.heap.size, 2, none⟩) (by simp) (.slice (some ⟨g7, 0, none⟩) 1 c7)
      have hw6 : w.heap.size ≤ (w6.drewN nq).heap.size := hM6.size
      have hof := own_set (p := ⟨w.heap.size, 2, none⟩) (own_set (p := ⟨w.heap.size, 1, none⟩) (own_set (p := ⟨w.heap.size, 0, none⟩) (own_set (p := ⟨tb, 2, none⟩) (own_lower ho7 hw6) (by simp [Value.ownBlock]; omega) (.slice (some ⟨g7, 0, none⟩) 1 c7)) (by simp [Value.ownBlock]; omega) (.bool false)) (by simp [Value.ownBlock]; omega) (.string nm)) (by simp [Value.ownBlock]; omega) (.slice (some ⟨g7, 0, none⟩) 1 c7)
      exact bodyPost_ret (v := .agg #[.bool false, .string nm, .slice (some ⟨g7, 0, none⟩) 1 c7]) (by simp [results, Tryz.results93, go_sem, z0, z1, z2]) rfl ⟨_, rfl, hof, hMf⟩
end Go.Proofs.YthjcmodhleoocaaGreatDoor.Z
/- ZParseTag -/
namespace Go.Proofs.YthjcmodhleoocaaGreatDoor.Z
open Go Go.RowKit Go.Lib
set_option linter.unusedVariables false
set_option linter.unusedSimpArgs false
theorem noFault (w : World) : (Instr.typeAssert Value.nilIface 20 132 true).run Tryz.prog w = .ok (.tuple #[.agg #[.int .i64 0, .int .i64 0], .bool false]) w := by
  have hz := Tryz.zeroValue132
  simp [Instr.typeAssert, go_sem]
set_option maxHeartbeats 1000000 in
set_option maxRecDepth 100000 in
/-- the deferred closure where there is no panic -/
theorem idle (p q r : Addr) (w : World) :
    CallsD Tryz.prog 92 #[.pointer (some p), .pointer (some q), .pointer (some r)] .returning w fun e u' w' => e = .returned (.tuple #[]) ∧ u' = .returning ∧ Below w.heap.size w w' := by
  have hnf := noFault
  refine callsD_of_wpS Tryz.func92 rfl fun c₀ cs hu => ?_
  simp only [Tryz.ntmps92, List.size_toArray, List.length_cons, List.length_nil, Nat.reduceAdd, Nat.reduceSub, Array.replicate_succ, Array.replicate_zero, List.push_toArray, List.append_toArray, List.nil_append, List.cons_append]
  apply wpS_seq
  apply wpS_region
  simp [wpOpsS, go_sem, recoverD, hu, Exit.thenS, hnf]
  apply wpS_seq
  apply wpS_region
  simp [wpOpsS, go_sem, Exit.thenS]
  refine wpS_cond (t := false) rfl ?_
  simp only [Bool.false_eq_true, if_false]
  refine wpS_of_wp (wp_skip ?_)
  have hb : Below w.heap.size w (w.alloc (.cells #[.int .i64 0, .int .i64 0] 132)) := (Below.refl _ w).alloc (Nat.le_refl _) _
  cases c₀
  simp_all [bodyPostS, results, Tryz.results92]
/-- A tag's value: whether it closes, its name, its pairs in a row from base on. -/
def TagV (base : Nat) (w : World) (v : Value) (c : Bool) (nm : ByteArray) (m : Nat) (ks : List Value) : Prop := ∃ kv, v = .agg #[.bool c, .string nm, kv] ∧ w.ownsRow base 105 2 kv m ks ∧ (m = 0 → kv = .slice none 0 0)
theorem own_slice {w : World} {base n : Nat} {e : TypeId} {size : Nat} {v : Value} {xs : List Value} (h : w.ownsRow base e size v n xs) : ∃ A c, v = .slice A n c := by
  rcases h.2 with ⟨rfl, rfl⟩ | ⟨g, cap, cur, rfl, _⟩
  · exact ⟨none, 0, rfl⟩
  · exact ⟨_, cap, rfl⟩
set_option maxRecDepth 100000 in
theorem parseTag (s : ByteArray) (w : World) (c : Bool) (nm : ByteArray) (m : Nat) (ks : List Value) (hP : ∀ w b, Sc w b s 0 → Calls Tryz.prog 93 #[.pointer (some ⟨b, 0, none⟩)] w fun r w' => ∃ v, r = .returned v ∧ TagV w.heap.size w' v c nm m ks ∧ Mv b w w') :
    Calls Tryz.prog 63 #[.string s] w fun r w' => ∃ v, r = .returned (.tuple #[v, .int .i64 0, .int .i64 0]) ∧ TagV w.heap.size w' v c nm m ks ∧ Below w.heap.size w w' := by
  have hmf : ∀ (fn : Fn) (first cap : Array Value) (w : World), (Instr.makeFunc fn first cap).run Tryz.prog w = .ok (.func fn first cap) w := fun _ _ _ _ => rfl
  go_enter_defers Tryz.func63, Tryz.ntmps63
  go_wp2_with fail
  have hb4 : Below w.heap.size w ((((w.alloc (.cells #[.bool false, .string ⟨#[]⟩, .slice none 0 0] 112)).alloc (.cells #[.int .i64 0] 3)).alloc (.cells #[.int .i64 0] 35)).alloc (.cells #[.string s, .int .i64 0] 135)) :=
    ((((Below.refl _ w).alloc (Nat.le_refl _) _).alloc (by simp) _).alloc (by simp; omega) _).alloc (by simp; omega) _
  have q0 : ((((w.alloc (.cells #[.bool false, .string ⟨#[]⟩, .slice none 0 0] 112)).alloc (.cells #[.int .i64 0] 3)).alloc (.cells #[.int .i64 0] 35)).alloc (.cells #[.string s, .int .i64 0] 135)).heap[w.heap.size]? = some (.cells #[.bool false, .string ⟨#[]⟩, .slice none 0 0] 112 (0, 0)) := blk_alloc (blk_alloc (blk_alloc (blk_new w _) _) _) _
  have q1 : ((((w.alloc (.cells #[.bool false, .string ⟨#[]⟩, .slice none 0 0] 112)).alloc (.cells #[.int .i64 0] 3)).alloc (.cells #[.int .i64 0] 35)).alloc (.cells #[.string s, .int .i64 0] 135)).heap[w.heap.size + 1]? = some (.cells #[.int .i64 0] 3 (0, 0)) := blk_alloc (blk_alloc (by simpa using blk_new (w.alloc (.cells #[.bool false, .string ⟨#[]⟩, .slice none 0 0] 112)) (.cells #[.int .i64 0] 3)) _) _
  have q2 : ((((w.alloc (.cells #[.bool false, .string ⟨#[]⟩, .slice none 0 0] 112)).alloc (.cells #[.int .i64 0] 3)).alloc (.cells #[.int .i64 0] 35)).alloc (.cells #[.string s, .int .i64 0] 135)).heap[w.heap.size + 1 + 1]? = some (.cells #[.int .i64 0] 35 (0, 0)) := blk_alloc (by simpa using blk_new ((w.alloc (.cells #[.bool false, .string ⟨#[]⟩, .slice none 0 0] 112)).alloc (.cells #[.int .i64 0] 3)) (.cells #[.int .i64 0] 35)) _
  have q3 : Sc ((((w.alloc (.cells #[.bool false, .string ⟨#[]⟩, .slice none 0 0] 112)).alloc (.cells #[.int .i64 0] 3)).alloc (.cells #[.int .i64 0] 35)).alloc (.cells #[.string s, .int .i64 0] 135)) (w.heap.size + 1 + 1 + 1) s 0 := by
    unfold Sc; simpa using blk_new (((w.alloc (.cells #[.bool false, .string ⟨#[]⟩, .slice none 0 0] 112)).alloc (.cells #[.int .i64 0] 3)).alloc (.cells #[.int .i64 0] 35)) (.cells #[.string s, .int .i64 0] 135)
  generalize ((((w.alloc (.cells #[.bool false, .string ⟨#[]⟩, .slice none 0 0] 112)).alloc (.cells #[.int .i64 0] 3)).alloc (.cells #[.int .i64 0] 35)).alloc (.cells #[.string s, .int .i64 0] 135)) = w4 at *
  refine (hP w4 _ q3).mono ?_
  rintro r w5 ⟨v, rfl, ⟨kv, rfl, ho, hz0⟩, hM⟩
  obtain ⟨A, kc, rfl⟩ := own_slice ho
  have HZ0 := Lib.hid hz0
  clear hz0
  have r0 := (hM.rest _ (by omega) (blk_lt q0)).trans q0
  have r1 := (hM.rest _ (by omega) (blk_lt q1)).trans q1
  have r2 := (hM.rest _ (by omega) (blk_lt q2)).trans q2
  have hz4 : w.heap.size + 1 + 1 < w4.heap.size := blk_lt q2
  have a0 := blk_cell r0 0
  have a1 := blk_cell r0 1
  have a2 := blk_cell r0 2
  have a3 := blk_frozen r0 0
  have a4 := blk_frozen r0 1
  have a5 := blk_frozen r0 2
  have b0 := blk_cell r1 0
  have b1 := blk_frozen r1 0
  have c0 := blk_cell r2 0
  have c1 := blk_frozen r2 0
  simp at a0 a1 a2 b0 c0
  go_wp2
  have f0 := blk_far (blk_far (blk_put (blk_put (blk_put r0 0 (.bool c) rfl) 1 (.string nm) rfl) 2 (.slice A m kc) rfl) (p := ⟨w.heap.size + 1, 0, none⟩) (by simp) (.int .i64 0)) (p := ⟨w.heap.size + 1 + 1, 0, none⟩) (by simp; omega) (.int .i64 0)
  have f1 := blk_far (blk_put (blk_far (blk_far (blk_far r1 (p := ⟨w.heap.size, 0, none⟩) (by simp) (.bool c)) (p := ⟨w.heap.size, 1, none⟩) (by simp) (.string nm)) (p := ⟨w.heap.size, 2, none⟩) (by simp) (.slice A m kc)) 0 (.int .i64 0) rfl) (p := ⟨w.heap.size + 1 + 1, 0, none⟩) (by simp) (.int .i64 0)
  have f2 := blk_put (blk_far (blk_far (blk_far (blk_far r2 (p := ⟨w.heap.size, 0, none⟩) (by simp; omega) (.bool c)) (p := ⟨w.heap.size, 1, none⟩) (by simp; omega) (.string nm)) (p := ⟨w.heap.size, 2, none⟩) (by simp; omega) (.slice A m kc)) (p := ⟨w.heap.size + 1, 0, none⟩) (by simp) (.int .i64 0)) 0 (.int .i64 0) rfl
  have hbf := (((((hb4.trans (hM.below (by omega) (by omega))).setCell (p := ⟨w.heap.size, 0, none⟩) (Nat.le_refl _) (.bool c)).setCell (p := ⟨w.heap.size, 1, none⟩) (Nat.le_refl _) (.string nm)).setCell (p := ⟨w.heap.size, 2, none⟩) (Nat.le_refl _) (.slice A m kc)).setCell (p := ⟨w.heap.size + 1, 0, none⟩) (by simp) (.int .i64 0)).setCell (p := ⟨w.heap.size + 1 + 1, 0, none⟩) (by simp; omega) (.int .i64 0)
  have hob : ∀ k, (Value.slice A m kc).ownBlock = some k → w4.heap.size ≤ k := fun k hk => (ho.lt k hk).1
  have hof := own_set (p := ⟨w.heap.size + 1 + 1, 0, none⟩) (own_set (p := ⟨w.heap.size + 1, 0, none⟩) (own_set (p := ⟨w.heap.size, 2, none⟩) (own_set (p := ⟨w.heap.size, 1, none⟩) (own_set (p := ⟨w.heap.size, 0, none⟩) (own_lower ho (show w.heap.size ≤ _ by omega)) (fun e => by have := hob _ e; simp at this; omega) (.bool c)) (fun e => by have := hob _ e; simp at this; omega) (.string nm)) (fun e => by have := hob _ e; simp at this; omega) (.slice A m kc)) (fun e => by have := hob _ e; simp at this; omega) (.int .i64 0)) (fun e => by have := hob _ e; simp at this; omega) (.int .i64 0)
  generalize (((((w5.setCell ⟨w.heap.size, 0, none⟩ (.bool c)).setCell ⟨w.heap.size, 1, none⟩ (.string nm)).setCell ⟨w.heap.size, 2, none⟩ (.slice A m kc)).setCell ⟨w.heap.size + 1, 0, none⟩ (.int .i64 0)).setCell ⟨w.heap.size + 1 + 1, 0, none⟩ (.int .i64 0)) = w6 at *
  refine leaves_cons (f := 92) (args := #[.pointer (some ⟨w.heap.size, 0, none⟩), .pointer (some ⟨w.heap.size + 1, 0, none⟩), .pointer (some ⟨w.heap.size + 1 + 1, 0, none⟩)]) (by simp) (by simp [go_sem]) ?_
  refine (idle _ _ _ w6).mono ?_
  rintro e u' w7 ⟨rfl, rfl, hb7⟩
  have g0 := (hb7.block _ (blk_lt f0)).trans f0
  have g1 := (hb7.block _ (blk_lt f1)).trans f1
  have g2 := (hb7.block _ (blk_lt f2)).trans f2
  have y0 := blk_cell g0 0
  have y1 := blk_cell g0 1
  have y2 := blk_cell g0 2
  have y3 := blk_cell g1 0
  have y4 := blk_cell g2 0
  simp at y0 y1 y2 y3 y4
  have hfin : TagV w.heap.size w7 (.agg #[.bool c, .string nm, .slice A m kc]) c nm m ks := ⟨_, rfl, own_move hof (fun k hk => hb7.block k ((hof.lt k hk).2)), HZ0.out⟩
  refine ⟨.tuple #[.agg #[.bool c, .string nm, .slice A m kc], .int .i64 0, .int .i64 0], ?_, _, rfl, hfin, hbf.trans (hb7.mono (by have := hbf.size; omega))⟩
  simp [results, Tryz.results63, go_sem, y0, y1, y2, y3, y4]
end Go.Proofs.YthjcmodhleoocaaGreatDoor.Z
/- ZShelf -/
namespace Go.Proofs
open Go.Shelf
def Tryz.lays146_ren : Go.Shelf.Ren := ⟨fun | 146 => 89 | 221 => 110 | 268 => 121 | 138 => 122 | 143 => 123 | 195 => 129 | 197 => 130 | 218 => 131 | 219 => 87 | 260 => 133 | 217 => 106 | 225 => 107 | 224 => 108 | 267 => 109 | 266 => 119 | 314 => 120 | n => n, fun | 9 => 9 | 31 => 28 | 3 => 3 | 4 => 4 | 0 => 0 | 105 => 149 | 21 => 21 | 5 => 5 | 46 => 147 | 119 => 170 | 139 => 173 | 138 => 172 | 146 => 156 | 51 => 155 | n => n, fun | 1 => 0 | 3 => 1 | 4 => 2 | n => n⟩
theorem Tryz.lays146 : Go.Proofs.Lays.n146 Tryz.prog Tryz.lays146_ren := {
  mixed := by kernel_rfl
  f138 := Tryz.func122.trans (congrArg some (by kernel_rfl))
  f143 := Tryz.func123.trans (congrArg some (by kernel_rfl))
  f146 := Tryz.func89.trans (congrArg some (by kernel_rfl))
  f195 := Tryz.func129.trans (congrArg some (by kernel_rfl))
  f197 := Tryz.func130.trans (congrArg some (by kernel_rfl))
  f217 := Tryz.func106.trans (congrArg some (by kernel_rfl))
  f218 := Tryz.func131.trans (congrArg some (by kernel_rfl))
  f219 := Tryz.func87.trans (congrArg some (by kernel_rfl))
  f221 := Tryz.func110.trans (congrArg some (by kernel_rfl))
  f224 := Tryz.func108.trans (congrArg some (by kernel_rfl))
  f225 := Tryz.func107.trans (congrArg some (by kernel_rfl))
  f260 := Tryz.func133.trans (congrArg some (by kernel_rfl))
  f266 := Tryz.func119.trans (congrArg some (by kernel_rfl))
  f267 := Tryz.func109.trans (congrArg some (by kernel_rfl))
  f268 := Tryz.func121.trans (congrArg some (by kernel_rfl))
  f314 := Tryz.func120.trans (congrArg some (by kernel_rfl))
  t0 := Tryz.underlying0
  a0 := Tryz.isAgg0
  z0 := Tryz.sizeOf0
  v0 := Tryz.zeroValue0
  t3 := Tryz.underlying3
  a3 := Tryz.isAgg3
  z3 := Tryz.sizeOf3
  v3 := Tryz.zeroValue3
  t4 := Tryz.underlying4
  a4 := Tryz.isAgg4
  z4 := Tryz.sizeOf4
  v4 := Tryz.zeroValue4
  t5 := Tryz.underlying5
  a5 := Tryz.isAgg5
  z5 := Tryz.sizeOf5
  v5 := Tryz.zeroValue5
  t9 := Tryz.underlying9
  a9 := Tryz.isAgg9
  z9 := Tryz.sizeOf9
  v9 := Tryz.zeroValue9
  t21 := Tryz.underlying21
  a21 := Tryz.isAgg21
  z21 := Tryz.sizeOf21
  v21 := Tryz.zeroValue21
  t31 := Tryz.underlying28
  a31 := Tryz.isAgg28
  z31 := Tryz.sizeOf28
  v31 := Tryz.zeroValue28
  t46 := Tryz.underlying147
  a46 := Tryz.isAgg147
  z46 := Tryz.sizeOf147
  v46 := Tryz.zeroValue147
  t51 := Tryz.underlying155
  a51 := Tryz.isAgg155
  z51 := Tryz.sizeOf155
  v51 := Tryz.zeroValue155
  t105 := Tryz.underlying149
  a105 := Tryz.isAgg149
  z105 := Tryz.sizeOf149
  v105 := Tryz.zeroValue149
  t119 := Tryz.underlying170
  a119 := Tryz.isAgg170
  z119 := Tryz.sizeOf170
  t138 := Tryz.underlying172
  a138 := Tryz.isAgg172
  z138 := Tryz.sizeOf172
  v138 := Tryz.zeroValue172
  t139 := Tryz.underlying173
  a139 := Tryz.isAgg173
  z139 := Tryz.sizeOf173
  v139 := Tryz.zeroValue173
  t146 := Tryz.underlying156
  a146 := Tryz.isAgg156
  z146 := Tryz.sizeOf156
  v146 := Tryz.zeroValue156
  g1 := by kernel_rfl
  g3 := by kernel_rfl
  g4 := by kernel_rfl }
def Tryz.lays219_ren : Go.Shelf.Ren := ⟨fun | 219 => 87 | 217 => 106 | 225 => 107 | 224 => 108 | 267 => 109 | 266 => 119 | 314 => 120 | n => n, fun | 9 => 9 | 3 => 3 | 4 => 4 | 5 => 5 | 46 => 147 | 146 => 156 | 51 => 155 | n => n, fun | 1 => 0 | n => n⟩
theorem Tryz.lays219 : Go.Proofs.Lays.n219 Tryz.prog Tryz.lays219_ren := {
  mixed := by kernel_rfl
  f217 := Tryz.func106.trans (congrArg some (by kernel_rfl))
  f219 := Tryz.func87.trans (congrArg some (by kernel_rfl))
  f224 := Tryz.func108.trans (congrArg some (by kernel_rfl))
  f225 := Tryz.func107.trans (congrArg some (by kernel_rfl))
  f266 := Tryz.func119.trans (congrArg some (by kernel_rfl))
  f267 := Tryz.func109.trans (congrArg some (by kernel_rfl))
  f314 := Tryz.func120.trans (congrArg some (by kernel_rfl))
  t3 := Tryz.underlying3
  a3 := Tryz.isAgg3
  z3 := Tryz.sizeOf3
  v3 := Tryz.zeroValue3
  t4 := Tryz.underlying4
  a4 := Tryz.isAgg4
  z4 := Tryz.sizeOf4
  v4 := Tryz.zeroValue4
  t5 := Tryz.underlying5
  a5 := Tryz.isAgg5
  z5 := Tryz.sizeOf5
  v5 := Tryz.zeroValue5
  t9 := Tryz.underlying9
  a9 := Tryz.isAgg9
  z9 := Tryz.sizeOf9
  v9 := Tryz.zeroValue9
  t46 := Tryz.underlying147
  a46 := Tryz.isAgg147
  z46 := Tryz.sizeOf147
  v46 := Tryz.zeroValue147
  t51 := Tryz.underlying155
  a51 := Tryz.isAgg155
  z51 := Tryz.sizeOf155
  v51 := Tryz.zeroValue155
  t146 := Tryz.underlying156
  a146 := Tryz.isAgg156
  z146 := Tryz.sizeOf156
  v146 := Tryz.zeroValue156
  g1 := by kernel_rfl }
def Tryz.lays99_ren : Go.Shelf.Ren := ⟨fun | 99 => 61 | 206 => 88 | n => n, fun | 9 => 9 | 4 => 4 | 3 => 3 | n => n, fun | n => n⟩
theorem Tryz.lays99 : Go.Proofs.Lays.n99 Tryz.prog Tryz.lays99_ren := {
  mixed := by kernel_rfl
  f99 := Tryz.func61.trans (congrArg some (by kernel_rfl))
  f206 := Tryz.func88.trans (congrArg some (by kernel_rfl))
  t3 := Tryz.underlying3
  a3 := Tryz.isAgg3
  z3 := Tryz.sizeOf3
  v3 := Tryz.zeroValue3
  t4 := Tryz.underlying4
  a4 := Tryz.isAgg4
  z4 := Tryz.sizeOf4
  v4 := Tryz.zeroValue4
  t9 := Tryz.underlying9
  a9 := Tryz.isAgg9
  z9 := Tryz.sizeOf9
  v9 := Tryz.zeroValue9 }
end Go.Proofs
/- ZStr -/
namespace Go.Proofs.YthjcmodhleoocaaGreatDoor.Z
open Go Go.RowKit Go.Lib
set_option linter.unusedVariables false
theorem pfx (s p : ByteArray) (w : World) : Calls Tryz.prog 61 #[.string s, .string p] w fun e w' => e = .returned (.bool (Lib.hasPrefix s.data.toList p.data.toList)) ∧ w' = w := Any.strings_HasPrefix Tryz.lays99 s p w
theorem index1 (s : ByteArray) (c : UInt8) (w : World) : Calls Tryz.prog 87 #[.string s, .string ⟨#[c]⟩] w fun e w' => e = .returned (.int .i64 (Lib.indexByte s.data.toList c)) ∧ w' = w := Any.stringslite_Index_one Tryz.lays219 s c w
theorem cut0 (s : ByteArray) (c : UInt8) (i : Nat) (h : Lib.indexByte s.data.toList c = i) (hi : i < s.size) (hm : s.size < 4294967281) (w : World) :
    Calls Tryz.prog 60 #[.string s, .string ⟨#[c]⟩] w fun e w' => e = .returned (.tuple #[.string (s.extract 0 i), .string (s.extract (i + 1) s.size), .bool true]) ∧ ∃ n, w' = w.drewN n := by
  have c1 : (0 : Int) ≤ ↑i := by omega
  have c2 : (↑i : Int) ≤ ↑s.size := by omega
  have c3 : (0 : Int) ≤ ↑i + 1 := by omega
  have c4 : (↑i + 1 : Int) ≤ ↑s.size := by omega
  have e1 : IntKind.i64.wrap ((i : Int) + 1) = (i : Int) + 1 := IntWalk.i64_in _ (by omega)
  have e2 : ((i : Int) + 1).toNat = i + 1 := by omega
  have HI := Lib.hid h
  clear h
  go_enter Tryz.func60, Tryz.ntmps60
  go_wp2_with (go_at_call 87; refine (index1 _ _ _).mono ?_; rintro e w' ⟨rfl, rfl⟩; rw [HI.out])
  go_quiet (fail)
  go_wp2
  go_ret3
  exact ⟨by first | rfl | simp, _, rfl⟩
theorem cut (s : ByteArray) (c : UInt8) (i : Nat) (h : Lib.indexByte s.data.toList c = i) (hi : i < s.size) (hm : s.size < 4294967281) (w : World) :
    Calls Tryz.prog 40 #[.string s, .string ⟨#[c]⟩] w fun e w' => e = .returned (.tuple #[.string (s.extract 0 i), .string (s.extract (i + 1) s.size), .bool true]) ∧ ∃ n, w' = w.drewN n := by
  go_enter Tryz.func40, Tryz.ntmps40
  go_wp2_with (go_at_call 60; refine (cut0 _ _ i h hi hm _).mono ?_; rintro e w' ⟨rfl, n, rfl⟩)
  go_ret3
  exact ⟨rfl, n, rfl⟩
theorem split1 (s : ByteArray) (c : UInt8) (h : Lib.countB s ⟨#[c]⟩ = 0) (hs : s.size < 4294967281) (w : World) :
    Calls Tryz.prog 89 #[.string s, .string ⟨#[c]⟩] w fun e w' => e = .returned (.slice (some ⟨w.heap.size, 0, none⟩) 1 1) ∧ w' = w.alloc (.cells #[.string s] 9) := by
  have c0 := Any.strings_genSplit_core (L := { Tryz.lays146 with }) (by kernel_rfl) s ⟨#[c]⟩ 0 (-1) 1 w hs (Nat.le_refl _) (Nat.zero_le _)
    (fun x cc hx => (Any.strings_Index_one { Tryz.lays146 with } x c _).mono fun e w' ⟨he, hw⟩ => ⟨by rw [he]; exact congrArg (fun z => Ending.returned (Value.int .i64 z)) (Lib.index_one x.data.toList c).symm, hw⟩)
    ((Any.strings_Count_one { Tryz.lays146 with } s c w).mono fun e w' ⟨he, hw⟩ => ⟨by rw [he]; show _ = Ending.returned (Value.int .i64 ((Lib.count s.data.toList [c] : Nat) : Int)); rw [Lib.count_one]; rfl, hw⟩) (by decide) (by decide) (by rw [if_pos (by decide), h]; omega)
  go_enter Tryz.func89, Tryz.ntmps89
  go_wp2_with (go_at_call 110; refine c0.mono ?_; rintro e w' ⟨rfl, hw⟩; rw [hw])
  go_ret
  exact ⟨rfl, rfl⟩
end Go.Proofs.YthjcmodhleoocaaGreatDoor.Z
