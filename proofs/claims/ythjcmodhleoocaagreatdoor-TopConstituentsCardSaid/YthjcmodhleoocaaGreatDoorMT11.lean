/- For every corpus that comes in, TopConstituents returns true and leaves the corpus as it was; the listed variables are tied to the program's text. (Part 11.) -/
import Derived.Test.YthjcmodhleoocaaGreatDoorMT10
import Derived.Test.YthjcmodhleoocaaGreatDoorMT7
import Derived.Test.YthjcmodhleoocaaGreatDoorMT8
import Derived.Test.YthjcmodhleoocaaGreatDoorMT9
import Derived.Test.YthjcmodhleoocaaGreatDoorRows
import Derived.WalkKit
import Derived.ProofKit
import Derived.OpenShut
import Derived.LaidMore
import Derived.Lay
import Derived.Below
import Derived.Carry
import Derived.SizedLaws
import Derived.Stop.Joined
set_option linter.unusedVariables false
set_option linter.unusedSimpArgs false
set_option linter.unusedSectionVars false
/- ZParse -/
namespace Go.Proofs.YthjcmodhleoocaaGreatDoor.Z
open Go Go.RowKit Go.Lib
set_option linter.unusedVariables false
set_option linter.unusedSimpArgs false
theorem el22 : El 22 73 2 24 := .mk' (z := .agg #[.string ⟨#[]⟩, .bool false]) Tryz.underlying22 (by kernel_rfl) rfl (by omega) (by omega)
def doc : ByteArray := ⟨#[60, 116, 101, 120, 116, 32, 105, 100, 61, 34, 116, 34, 62, 10, 60, 115, 62, 10, 97, 10, 60, 47, 115, 62, 10, 98, 10, 60, 47, 116, 101, 120, 116, 62, 10]⟩
/-- The reader with q lines to come. -/
def St (W w : World) (x : Nat) (av : Value) : Nat → Prop
  | 6 => Rd W w x av NilS NilS NilS NilS false
  | 5 => ∃ xv, Rd W w x av NilS xv NilS NilS true ∧ TxtR W w xv (-1)
  | 4 => ∃ xv ov, Rd W w x av NilS xv NilS ov true ∧ TxtR W w xv (-1) ∧ RegR W w ov 0
  | 3 => ∃ xv ov tv, Rd W w x av tv xv NilS ov true ∧ TxtR W w xv (-1) ∧ RegR W w ov 0 ∧ TksR W w tv [l3]
  | 2 => ∃ xv rv tv A c, Rd W w x av tv xv rv (.slice A 0 c) true ∧ TxtR W w xv (-1) ∧ RegR W w rv 1 ∧ TksR W w tv [l3]
  | 1 => ∃ xv rv tv A c, Rd W w x av tv xv rv (.slice A 0 c) true ∧ TxtR W w xv (-1) ∧ RegR W w rv 1 ∧ TksR W w tv [l3, l5]
  | _ => ∃ xv rv tv A c, Rd W w x av tv xv rv (.slice A 0 c) false ∧ TxtR W w xv 2 ∧ RegR W w rv 1 ∧ TksR W w tv [l3, l5]
def atOf : Nat → Nat
  | 6 => 0
  | 5 => 14
  | 4 => 18
  | 3 => 20
  | 2 => 25
  | 1 => 27
  | _ => 35
/-- What one line does: from the state with q + 1 to come to the one with q. -/
def lnOf : Nat → ByteArray
  | 5 => l1
  | 4 => l2
  | 3 => l3
  | 2 => l4
  | 1 => l5
  | _ => l6
theorem tks_nil (W w : World) : TksR W w NilS [] := ⟨[], World.ownsRow_nil _ _ _ _, rfl, fun i v s hi => by simp at hi⟩
theorem St.line {W w : World} {x q : Nat} {av : Value} (hq : q < 6) (h : St W w x av (q + 1)) :
    Calls Tryz.prog 41 #[.pointer (some ⟨x, 0, none⟩), .string (lnOf q)] w fun r w' => r = .returned (.agg #[.int .i64 0, .int .i64 0]) ∧ St W w' x av q := by
  obtain rfl | rfl | rfl | rfl | rfl | rfl : q = 0 ∨ q = 1 ∨ q = 2 ∨ q = 3 ∨ q = 4 ∨ q = 5 := by omega
  · obtain ⟨xv, rv, tv, A, c, a, b, d, e⟩ := h
    exact (line6 W w x av tv xv rv A c 1 [l3, l5] a b d e (by decide)).mono (fun r w' ⟨h1, h2, h3, h4, h5⟩ => ⟨h1, xv, rv, tv, A, c, h2, h3, h4, h5⟩)
  · obtain ⟨xv, rv, tv, A, c, a, b, d, e⟩ := h
    have e0 := e.choose_spec.1
    exact (lineTok W w x av tv xv rv (.slice A 0 c) [l3] l5 a e (by decide) tok5 (by decide)).mono (fun r w' ⟨h1, tv', h2, h3, h4⟩ => ⟨h1, xv, rv, tv', A, c, h2, own_ch b h4 (fun k hk e => by
      rcases e with e | e
      · exact own_ne b a.hx (by decide) (by rw [hk, e])
      · exact own_ne2 b e0 (by decide) k e hk), own_ch d h4 (fun k hk e => by
      rcases e with e | e
      · exact own_ne d a.hx (by decide) (by rw [hk, e])
      · exact own_ne2 d e0 (by decide) k e hk), h3⟩)
  · obtain ⟨xv, ov, tv, a, b, d, e⟩ := h
    exact (line4 W w x av tv xv ov [l3] a b d e (by decide)).mono (fun r w' ⟨h1, rv, A, c, h2, h3, h4, h5⟩ => ⟨h1, xv, rv, tv, A, c, h2, h3, h4, h5⟩)
  · obtain ⟨xv, ov, a, b, d⟩ := h
    exact (lineTok W w x av NilS xv NilS ov [] l3 a (tks_nil W w) (by decide) tok3 (by decide)).mono (fun r w' ⟨h1, tv', h2, h3, h4⟩ => ⟨h1, xv, ov, tv', h2, own_ch b h4 (fun k hk e => by
      rcases e with e | e
      · exact own_ne b a.hx (by decide) (by rw [hk, e])
      · cases e), own_ch d h4 (fun k hk e => by
      rcases e with e | e
      · exact own_ne d a.hx (by decide) (by rw [hk, e])
      · cases e), h3⟩)
  · obtain ⟨xv, a, b⟩ := h
    exact (line2 W w x av xv a b).mono (fun r w' ⟨h1, ov, h2, h3, h4⟩ => ⟨h1, xv, ov, h2, h3, h4⟩)
  · exact line1 W w x av h
theorem own_bel {w w' : World} {B : Nat} {t k : Nat} {v : Value} {n : Nat} {ws : List Value} (h : w.ownsRow B t k v n ws) (hb : Below w.heap.size w w') : w'.ownsRow B t k v n ws := own_move h (fun k hk => hb.block k (h.lt k hk).2)
theorem TksR.move {W w w' : World} {tv : Value} {ss : List ByteArray} (h : TksR W w tv ss) (hb : Below w.heap.size w w') : TksR W w' tv ss := by
  obtain ⟨vs, a, b, c⟩ := h
  exact ⟨vs, own_bel a hb, b, fun i v s h1 h2 => own_bel (c i v s h1 h2) hb⟩
theorem St.move {W w w' : World} {x : Nat} {av : Value} : {q : Nat} → St W w x av q → Below w.heap.size w w' → St W w' x av q
  | 6, h, hb => Rd.move h hb
  | 5, ⟨xv, a, b⟩, hb => ⟨xv, a.move hb, own_bel b hb⟩
  | 4, ⟨xv, ov, a, b, c⟩, hb => ⟨xv, ov, a.move hb, own_bel b hb, own_bel c hb⟩
  | 3, ⟨xv, ov, tv, a, b, c, d⟩, hb => ⟨xv, ov, tv, a.move hb, own_bel b hb, own_bel c hb, d.move hb⟩
  | 2, ⟨xv, rv, tv, A, k, a, b, c, d⟩, hb => ⟨xv, rv, tv, A, k, a.move hb, own_bel b hb, own_bel c hb, d.move hb⟩
  | 1, ⟨xv, rv, tv, A, k, a, b, c, d⟩, hb => ⟨xv, rv, tv, A, k, a.move hb, own_bel b hb, own_bel c hb, d.move hb⟩
  | 0, ⟨xv, rv, tv, A, k, a, b, c, d⟩, hb => ⟨xv, rv, tv, A, k, a.move hb, own_bel b hb, own_bel c hb, d.move hb⟩
  | n + 7, ⟨xv, rv, tv, A, k, a, b, c, d⟩, hb => ⟨xv, rv, tv, A, k, a.move hb, own_bel b hb, own_bel c hb, d.move hb⟩
/-- strings.Cut at the place where q + 1 lines are to come. -/
theorem cutAt (q : Nat) (hq : q < 6) (w : World) : Calls Tryz.prog 40 #[.string (doc.extract (atOf (q + 1)) doc.size), .string ⟨#[10]⟩] w fun e w' => (∃ v, e = .returned (.tuple #[.string (lnOf q), v, .bool true])) ∧ ∃ n, w' = w.drewN n := by
  have key : ∀ q, q < 6 → Lib.indexByte (doc.extract (atOf (q + 1)) doc.size).data.toList 10 = ((lnOf q).size : Int) ∧ (lnOf q).size < (doc.extract (atOf (q + 1)) doc.size).size ∧ (doc.extract (atOf (q + 1)) doc.size).extract 0 (lnOf q).size = lnOf q ∧ (doc.extract (atOf (q + 1)) doc.size).size < 4294967281 := by decide
  obtain ⟨k1, k2, k3, k4⟩ := key q hq
  refine (cut _ 10 _ k1 k2 k4 w).mono ?_
  rintro e w' ⟨rfl, h⟩
  exact ⟨⟨_, by rw [k3]⟩, h⟩
set_option maxRecDepth 100000 in
set_option maxHeartbeats 8000000 in
theorem parse (W : World) (ga ca : Nat) (hca : 1 ≤ ca) (h0 : W.cell? ⟨ga, 0, none⟩ = some (.string sWord)) (h1 : W.cell? ⟨ga, 1, none⟩ = some (.bool false)) :
    Calls Tryz.prog 26 #[.string doc, .slice (some ⟨ga, 0, none⟩) 1 ca] W fun r w' => ∃ av tv xv rv, r = .returned (.tuple #[.agg #[av, tv, xv, rv, NilS, NilS, NilS], .agg #[.int .i64 0, .int .i64 0], .int .i64 0]) ∧
      w'.ownsRow W.heap.size 73 2 av 1 [.string sWord, .bool false] ∧ TksR W w' tv [l3, l5] ∧ TxtR W w' xv 2 ∧ RegR W w' rv 1 ∧ Below W.heap.size W w' := by
  have hl := World.block_lt_of_cell? W _ h0
  have hd : decide ((1048576 : Int) < doc.size) = false := by decide
  go_enter Tryz.func26, Tryz.ntmps26
  go_wp2_with fail
  have hb2 : Below W.heap.size W ((W.alloc (.cells #[NilS, NilS, NilS, NilS, NilS, NilS, NilS] 30)).alloc (.cells #[.int .i64 0, .int .i64 0] 69)) := ((Below.refl _ W).alloc (Nat.le_refl _) _).alloc (by simp) _
  have hc2 : ((W.alloc (.cells #[NilS, NilS, NilS, NilS, NilS, NilS, NilS] 30)).alloc (.cells #[.int .i64 0, .int .i64 0] 69)).heap[W.heap.size]? = some (.cells #[NilS, NilS, NilS, NilS, NilS, NilS, NilS] 30 (0, 0)) := blk_alloc (blk_new W _) _
  have hp2 : ((W.alloc (.cells #[NilS, NilS, NilS, NilS, NilS, NilS, NilS] 30)).alloc (.cells #[.int .i64 0, .int .i64 0] 69)).heap[W.heap.size + 1]? = some (.cells #[.int .i64 0, .int .i64 0] 69 (0, 0)) := by simpa using blk_new (W.alloc (.cells #[NilS, NilS, NilS, NilS, NilS, NilS, NilS] 30)) (.cells #[.int .i64 0, .int .i64 0] 69)
  refine (checkAttr _ ga ca sWord hca (by decide) ((hb2.cell hl).trans h0) ((hb2.cell (p := ⟨ga, 1, none⟩) hl).trans h1)).mono ?_
  rintro r w3 ⟨rfl, hb3⟩
  obtain ⟨cb, hcb⟩ : ∃ cb, cb = W.heap.size := ⟨_, rfl⟩
  obtain ⟨pb, hpb⟩ : ∃ pb, pb = W.heap.size + 1 := ⟨_, rfl⟩
  have hc3 := (hb3.block W.heap.size (blk_lt hc2)).trans hc2
  have hp3 := (hb3.block (W.heap.size + 1) (blk_lt hp2)).trans hp2
  have hb4 : Below W.heap.size W w3 := hb2.trans (hb3.mono hb2.size)
  rw [← hpb, ← hcb]
  rw [← hpb] at hp3
  rw [← hcb] at hc3
  have hge : W.heap.size ≤ cb ∧ W.heap.size ≤ pb := by omega
  have HCB := Lib.hid hcb
  have HPB := Lib.hid hpb
  clear hcb hpb hc2 hp2 hb2 hb3
  have e0 := (hb4.cell hl).trans h0
  have e1 := (hb4.cell (p := ⟨ga, 1, none⟩) hl).trans h1
  go_wp2_with (at_builtin; go_loud (refine app el22 rfl _ _ rfl W.heap.size rfl (World.ownsRow_nil _ _ _ _) ⟨ga, 0, none⟩ 1 ca [.string sWord, .bool false] rfl rfl (fun j u hj => by
      match j, hj with
      | 0, hj => simpa [Addr.add] using e0.trans hj
      | 1, hj => simpa [Addr.add] using e1.trans hj) (fun u hu => by simp at hu; rcases hu with rfl | rfl <;> rfl) (by omega) hb4.size ?_); intro v' w5 h7 h8; obtain ⟨g5, c5, hv5, hg5, hgl5⟩ := own_form h7; subst hv5)
  have hb5 : Below W.heap.size W w5 := hb4.grown h8 hb4.size (fun k hk => nomatch hk)
  have hc5 := (h8.block cb (blk_lt hc3) (fun e => nomatch e)).trans hc3
  have hp5 := (h8.block pb (blk_lt hp3) (fun e => nomatch e)).trans hp3
  have hR6 : St W (w5.alloc (.cells #[.slice (some ⟨g5, 0, none⟩) 1 c5, NilS, NilS, NilS, NilS, NilS, NilS, NilS, .bool false] 93)) w5.heap.size (.slice (some ⟨g5, 0, none⟩) 1 c5) 6 :=
    ⟨hb5.alloc hb5.size _, hb5.size, blk_new w5 _, h7.alloc _, by rw [← HCB.out]; exact blk_alloc hc5 _, by rw [← HPB.out]; exact blk_alloc hp5 _⟩
  have hxb : W.heap.size ≤ w5.heap.size := hb5.size
  obtain ⟨x, hx⟩ : ∃ x, x = w5.heap.size := ⟨_, rfl⟩
  rw [← hx]
  rw [← hx] at hR6
  clear hx h7 h8 hc5 hp5 hc3 hp3 hb5 hb4 e0 e1 h0 h1
  generalize w5.alloc (.cells #[.slice (some ⟨g5, 0, none⟩) 1 c5, NilS, NilS, NilS, NilS, NilS, NilS, NilS, .bool false] 93) = w6 at *
  obtain ⟨D, hD⟩ : ∃ D, D = doc := ⟨_, rfl⟩
  rw [← hD]
  have HD := Lib.hid hD
  clear hD
  go_loopg [8] 6 (fun q v w' => v = .int .i64 (atOf q) ∧ Aside (q ≤ 6 ∧ St W w' x (.slice (some ⟨g5, 0, none⟩) 1 c5) q))
  case atStart => exact ⟨rfl, ⟨Nat.le_refl _, hR6⟩⟩
  case round =>
    obtain ⟨rfl, HS⟩ := hrel
    clear hR6
    have hq := HS.out.1
    obtain rfl | ⟨q, rfl⟩ : gk = 0 ∨ ∃ q, gk = q + 1 := by
      cases gk with
      | zero => exact .inl rfl
      | succ q => exact .inr ⟨q, rfl⟩
    · obtain ⟨xv, rv, tv, A, c, hR, hX, hr, hT⟩ := HS.out.2
      have hlt : decide (atOf 0 < doc.size) = false := by decide
      obtain ⟨a, ha⟩ : ∃ a, a = atOf 0 := ⟨_, rfl⟩
      rw [← ha, ← HD.out] at hlt
      rw [← ha]
      have HA := Lib.hid ha
      clear ha
      obtain ⟨gX, cX, rfl, hgX, hgXl⟩ := own_form hX
      obtain ⟨gT, cT, rfl, hgT, hgTl⟩ := own_form hT.choose_spec.1
      obtain ⟨gr, cr, rfl, hgr, hgrl⟩ := own_form hr
      have x3 := blk_cell hR.hx 3
      have x8 := blk_cell hR.hx 8
      have r0 := hr.cellAt 0 (by omega)
      have r1 := hr.cellAt 1 (by omega)
      have r2 := hr.cellAt 2 (by omega)
      have r3 := hr.cellAt 3 (by omega)
      simp at x3 x8 r0 r1 r2 r3
      go_wp2_with fail
      refine (sortReg gr cr 1 sS (by omega) _ r0 r1 r2 r3).mono ?_
      rintro r w2 ⟨⟨sv, rfl, hsv⟩, hb9⟩
      obtain ⟨gs, cs, rfl, hgs, hgsl⟩ := own_form hsv
      have hR9 := hR.move hb9
      have hX9 := own_bel hX hb9
      have hT9 := hT.move hb9
      have s3 := blk_frozen hR9.hx 3
      have t3 := blk_cell hR9.hx 3
      simp at t3
      have x0 : x ≠ cb := by have h1 := hR9.hc; rw [← HCB.out] at h1; exact ne_type hR9.hx h1 (by decide)
      have x1 : x ≠ pb := by have h1 := hR9.hp; rw [← HPB.out] at h1; exact ne_type hR9.hx h1 (by decide)
      have hcp : cb ≠ pb := by have h1 := HCB.out; have h2 := HPB.out; omega
      have hx' := blk_put hR9.hx 3 (.slice (some ⟨gs, 0, none⟩) (0 + 1) cs) rfl
      have hc' := blk_far (p := ⟨x, 3, none⟩) hR9.hc (by rw [← HCB.out]; exact Ne.symm x0) (.slice (some ⟨gs, 0, none⟩) (0 + 1) cs)
      have hp' := blk_far (p := ⟨x, 3, none⟩) hR9.hp (by rw [← HPB.out]; exact Ne.symm x1) (.slice (some ⟨gs, 0, none⟩) (0 + 1) cs)
      rw [← HCB.out] at hc'
      rw [← HPB.out] at hp'
      have hc9 := hR9.hc
      rw [← HCB.out] at hc9
      have hp9 := hR9.hp
      rw [← HPB.out] at hp9
      have t0 := blk_cell hR9.hx 0
      have t1 := blk_cell hR9.hx 1
      have t2 := blk_cell hR9.hx 2
      have t4 := blk_cell hR9.hx 4
      have t5 := blk_cell hR9.hx 5
      have t6 := blk_cell hR9.hx 6
      simp at t0 t1 t2 t4 t5 t6
      have c0 := blk_cell hc9 0
      have c1 := blk_cell hc9 1
      have c2 := blk_cell hc9 2
      have c3 := blk_cell hc9 3
      have c4 := blk_cell hc9 4
      have c5' := blk_cell hc9 5
      have c6 := blk_cell hc9 6
      have p0 := blk_cell hp9 0
      have p1 := blk_cell hp9 1
      simp at c0 c1 c2 c3 c4 c5' c6 p0 p1
      have f0 := blk_frozen hc9 0
      have f1 := blk_frozen hc9 1
      have f2 := blk_frozen hc9 2
      have f3 := blk_frozen hc9 3
      have f4 := blk_frozen hc9 4
      have f5 := blk_frozen hc9 5
      have f6 := blk_frozen hc9 6
      have g0 := blk_frozen hp9 0
      have g1 := blk_frozen hp9 1
      go_wp2_with fail
      have hC : Ch (fun k => k = x ∨ k = cb ∨ k = pb) w2 ((((((((((w2.setCell ⟨x, 3, none⟩ (.slice (some ⟨gs, 0, none⟩) 1 cs)).setCell ⟨cb, 0, none⟩ (.slice (some ⟨g5, 0, none⟩) 1 c5)).setCell ⟨cb, 1, none⟩ (.slice (some ⟨gT, 0, none⟩) 2 cT)).setCell ⟨cb, 2, none⟩ (.slice (some ⟨gX, 0, none⟩) 1 cX)).setCell ⟨cb, 3, none⟩ (.slice (some ⟨gs, 0, none⟩) 1 cs)).setCell ⟨cb, 4, none⟩ NilS).setCell ⟨cb, 5, none⟩ NilS).setCell ⟨cb, 6, none⟩ NilS).setCell ⟨pb, 0, none⟩ (.int .i64 0)).setCell ⟨pb, 1, none⟩ (.int .i64 0)) :=
        (((((((((((Ch.of_below _ (Below.refl _ w2)).set (p := ⟨x, 3, none⟩) (.inl (.inl rfl)) _).set (p := ⟨cb, 0, none⟩) (.inl (.inr (.inl rfl))) _).set (p := ⟨cb, 1, none⟩) (.inl (.inr (.inl rfl))) _).set (p := ⟨cb, 2, none⟩) (.inl (.inr (.inl rfl))) _).set (p := ⟨cb, 3, none⟩) (.inl (.inr (.inl rfl))) _).set (p := ⟨cb, 4, none⟩) (.inl (.inr (.inl rfl))) _).set (p := ⟨cb, 5, none⟩) (.inl (.inr (.inl rfl))) _).set (p := ⟨cb, 6, none⟩) (.inl (.inr (.inl rfl))) _).set (p := ⟨pb, 0, none⟩) (.inl (.inr (.inr rfl))) _).set (p := ⟨pb, 1, none⟩) (.inl (.inr (.inr rfl))) _)
      have F := blk_far (p := ⟨pb, 1, none⟩) (blk_far (p := ⟨pb, 0, none⟩) (blk_put (blk_put (blk_put (blk_put (blk_put (blk_put (blk_put hc' 0 (.slice (some ⟨g5, 0, none⟩) 1 c5) rfl) 1 (.slice (some ⟨gT, 0, none⟩) 2 cT) rfl) 2 (.slice (some ⟨gX, 0, none⟩) 1 cX) rfl) 3 (.slice (some ⟨gs, 0, none⟩) 1 cs) rfl) 4 NilS rfl) 5 NilS rfl) 6 NilS rfl) hcp (.int .i64 0)) hcp (.int .i64 0)
      have G := blk_put (blk_put (blk_far (p := ⟨cb, 6, none⟩) (blk_far (p := ⟨cb, 5, none⟩) (blk_far (p := ⟨cb, 4, none⟩) (blk_far (p := ⟨cb, 3, none⟩) (blk_far (p := ⟨cb, 2, none⟩) (blk_far (p := ⟨cb, 1, none⟩) (blk_far (p := ⟨cb, 0, none⟩) hp' (Ne.symm hcp) (.slice (some ⟨g5, 0, none⟩) 1 c5)) (Ne.symm hcp) (.slice (some ⟨gT, 0, none⟩) 2 cT)) (Ne.symm hcp) (.slice (some ⟨gX, 0, none⟩) 1 cX)) (Ne.symm hcp) (.slice (some ⟨gs, 0, none⟩) 1 cs)) (Ne.symm hcp) NilS) (Ne.symm hcp) NilS) (Ne.symm hcp) NilS) 0 (.int .i64 0) rfl) 1 (.int .i64 0) rfl
      have hFb := hR9.hb.trans (hC.below (fun k hk => by rcases hk with rfl | rfl | rfl; exact hR9.xb; exact hge.1; exact hge.2) hR9.hb.size)
      have y0 := blk_cell F 0
      have y1 := blk_cell F 1
      have y2 := blk_cell F 2
      have y3 := blk_cell F 3
      have y4 := blk_cell F 4
      have y5 := blk_cell F 5
      have y6 := blk_cell F 6
      have z0 := blk_cell G 0
      have z1 := blk_cell G 1
      generalize ((((((((((w2.setCell ⟨x, 3, none⟩ (.slice (some ⟨gs, 0, none⟩) 1 cs)).setCell ⟨cb, 0, none⟩ (.slice (some ⟨g5, 0, none⟩) 1 c5)).setCell ⟨cb, 1, none⟩ (.slice (some ⟨gT, 0, none⟩) 2 cT)).setCell ⟨cb, 2, none⟩ (.slice (some ⟨gX, 0, none⟩) 1 cX)).setCell ⟨cb, 3, none⟩ (.slice (some ⟨gs, 0, none⟩) 1 cs)).setCell ⟨cb, 4, none⟩ NilS).setCell ⟨cb, 5, none⟩ NilS).setCell ⟨cb, 6, none⟩ NilS).setCell ⟨pb, 0, none⟩ (.int .i64 0)).setCell ⟨pb, 1, none⟩ (.int .i64 0)) = wF at *
      simp at y0 y1 y2 y3 y4 y5 y6 z0 z1
      have nP : ∀ {B t k n v ws}, w2.ownsRow B t k v n ws → t ≠ 93 → t ≠ 30 → t ≠ 69 → wF.ownsRow B t k v n ws := fun h h1 h2 h3 => own_ch h hC (fun k hk e => by
        rcases e with rfl | rfl | rfl
        · exact own_ne h hR9.hx h1 hk
        · exact own_ne h hc9 h2 hk
        · exact own_ne h hp9 h3 hk)
      refine bodyPost_ret (v := .tuple #[.agg #[.slice (some ⟨g5, 0, none⟩) 1 c5, .slice (some ⟨gT, 0, none⟩) 2 cT, .slice (some ⟨gX, 0, none⟩) 1 cX, .slice (some ⟨gs, 0, none⟩) 1 cs, NilS, NilS, NilS], .agg #[.int .i64 0, .int .i64 0], .int .i64 0]) (by simp [results, Tryz.results26, go_sem, y0, y1, y2, y3, y4, y5, y6, z0, z1]) rfl ⟨_, _, _, _, rfl, nP hR9.ha (by decide) (by decide) (by decide), ?_, nP hX9 (by decide) (by decide) (by decide), nP (own_lower hsv hR.hb.size) (by decide) (by decide) (by decide), hFb⟩
      obtain ⟨vs, q1, q2, q3⟩ := hT9
      exact ⟨vs, nP q1 (by decide) (by decide) (by decide), q2, fun i v s h1 h2 => nP (q3 i v s h1 h2) (by decide) (by decide) (by decide)⟩
    · have hlt : decide (atOf (q + 1) < doc.size) = true := by
        have key : ∀ q, q < 6 → decide (atOf (q + 1) < doc.size) = true := by decide
        exact key q (by omega)
      have CUT := cutAt q (by omega)
      have hnext : atOf q = atOf (q + 1) + (lnOf q).size + 1 ∧ atOf q < 100 := by
        have key : ∀ q, q < 6 → atOf q = atOf (q + 1) + (lnOf q).size + 1 ∧ atOf q < 100 := by decide
        exact key q (by omega)
      obtain ⟨a, ha⟩ : ∃ a, a = atOf (q + 1) := ⟨_, rfl⟩
      rw [← ha, ← HD.out] at hlt CUT
      rw [← ha] at hnext
      rw [← ha]
      have HA := Lib.hid ha
      clear ha
      have hlt2 : decide ((a : Int) < D.size) = true := by simpa using hlt
      have k0 : (0 : Int) ≤ a := by omega
      have k1 : (a : Int) ≤ D.size := by have := of_decide_eq_true hlt; omega
      go_wp2_with fail
      refine (CUT wr).mono ?_
      rintro e w2 ⟨⟨v, rfl⟩, nq, rfl⟩
      have HS2 : St W (wr.drewN nq) x (.slice (some ⟨g5, 0, none⟩) 1 c5) (q + 1) := HS.out.2.move (bdrewN (Below.refl _ _) nq)
      generalize wr.drewN nq = w2 at *
      obtain ⟨L, hL⟩ : ∃ L, L = lnOf q := ⟨_, rfl⟩
      have LN := HS2.line (by omega)
      rw [← hL] at LN hnext
      rw [← hL]
      have HL := Lib.hid hL
      clear hL
      go_wp2_with fail
      refine LN.mono ?_
      rintro r w3 ⟨rfl, HS3⟩
      have HS4 : St W (w3.alloc (.cells #[.int .i64 0, .int .i64 0] 97)) x (.slice (some ⟨g5, 0, none⟩) 1 c5) q := HS3.move ((Below.refl _ _).alloc (Nat.le_refl _) _)
      go_wp2_with fail
      go_roundg q
      case measure => omega
      case rel => exact ⟨by rw [hnext.1]; congr 1, ⟨by omega, HS4⟩⟩
end Go.Proofs.YthjcmodhleoocaaGreatDoor.Z
/- ZAwake -/
namespace Go.Proofs.YthjcmodhleoocaaGreatDoor.Z
open Go Go.RowKit Go.Lib
set_option linter.unusedVariables false
set_option linter.unusedSimpArgs false
set_option maxRecDepth 100000 in
set_option maxHeartbeats 8000000 in
theorem awake (W : World) : Calls Tryz.prog 10 #[] W fun r w' => r = .returned (.bool true) ∧ Below W.heap.size W w' := by
  go_enter Tryz.func10, Tryz.ntmps10
  go_wp2_with fail
  have hb0 : Below W.heap.size W (W.alloc (.cells #[.string sWord, .bool false] 73)) := (Below.refl _ W).alloc (Nat.le_refl _) _
  refine (parse _ W.heap.size 1 (Nat.le_refl _) (by simp [sWord]) (by simp)).mono ?_
  rintro r w1 ⟨av, tv, xv, rv, rfl, hA, hT, hX, hR, hb1⟩
  obtain ⟨ga, ca, rfl, hga, hgal⟩ := own_form hA
  obtain ⟨gt, ct, rfl, hgt, hgtl⟩ := own_form hT.choose_spec.1
  obtain ⟨gx, cx, rfl, hgx, hgxl⟩ := own_form hX
  obtain ⟨gr, cr, rfl, hgr, hgrl⟩ := own_form hR
  go_wp2_with fail
  have hb2 : Below w1.heap.size w1 ((w1.alloc (.cells #[.slice (some ⟨ga, 0, none⟩) 1 ca, .slice (some ⟨gt, 0, none⟩) 2 ct, .slice (some ⟨gx, 0, none⟩) 1 cx, .slice (some ⟨gr, 0, none⟩) 1 cr, NilS, NilS, NilS] 30)).alloc (.cells #[.int .i64 0, .int .i64 0] 69)) := ((Below.refl _ w1).alloc (Nat.le_refl _) _).alloc (by simp) _
  have hT2 := hT.move hb2
  have hA2 := own_bel hA hb2
  have hX2 := own_bel hX hb2
  have hR2 := own_bel hR hb2
  have c2 := blk_alloc (blk_new w1 (.cells #[.slice (some ⟨ga, 0, none⟩) 1 ca, .slice (some ⟨gt, 0, none⟩) 2 ct, .slice (some ⟨gx, 0, none⟩) 1 cx, .slice (some ⟨gr, 0, none⟩) 1 cr, NilS, NilS, NilS] 30)) (.cells #[.int .i64 0, .int .i64 0] 69)
  have p2 := blk_new (w1.alloc (.cells #[.slice (some ⟨ga, 0, none⟩) 1 ca, .slice (some ⟨gt, 0, none⟩) 2 ct, .slice (some ⟨gx, 0, none⟩) 1 cx, .slice (some ⟨gr, 0, none⟩) 1 cr, NilS, NilS, NilS] 30)) (.cells #[.int .i64 0, .int .i64 0] 69)
  rw [show (w1.alloc (.cells #[.slice (some ⟨ga, 0, none⟩) 1 ca, .slice (some ⟨gt, 0, none⟩) 2 ct, .slice (some ⟨gx, 0, none⟩) 1 cx, .slice (some ⟨gr, 0, none⟩) 1 cr, NilS, NilS, NilS] 30)).heap.size = w1.heap.size + 1 by simp] at p2
  generalize ((w1.alloc (.cells #[.slice (some ⟨ga, 0, none⟩) 1 ca, .slice (some ⟨gt, 0, none⟩) 2 ct, .slice (some ⟨gx, 0, none⟩) 1 cx, .slice (some ⟨gr, 0, none⟩) 1 cr, NilS, NilS, NilS] 30)).alloc (.cells #[.int .i64 0, .int .i64 0] 69)) = w2 at *
  have hT1 : TokR w2 (some ⟨gt, 0, none⟩) 2 := by
    obtain ⟨vs, q1, q2, q3⟩ := hT2
    intro i hi
    have hk := q1.cellAt i (by simp at hi ⊢; omega)
    obtain ⟨v, hv⟩ : ∃ v, vs[i]? = some v := ⟨vs[i]'(by rw [q2]; simp; omega), List.getElem?_eq_getElem _⟩
    obtain ⟨s, hs, hvs⟩ : ∃ s, [l3, l5][i]? = some s ∧ vv s = 0 := by
      obtain rfl | rfl : i = 0 ∨ i = 1 := by omega
      · exact ⟨l3, rfl, by decide⟩
      · exact ⟨l5, rfl, by decide⟩
    have hr := q3 i v s hv hs
    obtain ⟨gi, ci, rfl, _, _⟩ := own_form hr
    have h0 := hr.cellAt 0 (by omega)
    refine ⟨gt, gi, ci, s, rfl, ?_, by simpa using h0, hvs⟩
    simpa [hv] using hk
  have a0 := hA2.cellAt 0 (by omega)
  have a1 := hA2.cellAt 1 (by omega)
  have x0 := hX2.cellAt 0 (by omega)
  have x1 := hX2.cellAt 1 (by omega)
  have x2 := hX2.cellAt 2 (by omega)
  have x3 := hX2.cellAt 3 (by omega)
  have r0 := hR2.cellAt 0 (by omega)
  have r1 := hR2.cellAt 1 (by omega)
  have r2 := hR2.cellAt 2 (by omega)
  have r3 := hR2.cellAt 3 (by omega)
  simp at a0 a1 x0 x1 x2 x3 r0 r1 r2 r3
  refine (validate1 w2 ga ca 2 ct gx cx gr cr 1 (some ⟨gt, 0, none⟩) sWord sId sS (by obtain ⟨_, h | ⟨g, c, u, e, _, _, e1, _⟩⟩ := hA; exact absurd h.2 (by omega); injection e with _ _ e; omega) (by decide) a0 a1 (by omega) hT1 (by decide) ⟨x0, x1, x2, x3⟩ (by decide) (by omega) r0 r1 r2 r3).mono ?_
  rintro r w3 ⟨rfl, hb3⟩
  have c3 := blk_below c2 hb3
  have p3 := blk_below p2 hb3
  have k0 := blk_cell p3 0
  have k1 := blk_cell p3 1
  have d1 := blk_cell c3 1
  have d3 := blk_cell c3 3
  have e2 := (own_bel hR2 hb3).cellAt 2 (by omega)
  simp at k0 k1 d1 d3 e2
  go_wp2_with fail
  go_ret
  have s1 := hb1.size
  have s2 := hb2.size
  exact ⟨rfl, ((hb0.trans (hb1.mono (by simp))).trans (hb2.mono (by simp at s1; omega))).trans (hb3.mono (by simp at s1; omega))⟩
end Go.Proofs.YthjcmodhleoocaaGreatDoor.Z
/- ZTop -/
namespace Go.Proofs.YthjcmodhleoocaaGreatDoor.Z
open Go Go.RowKit Go.Lib
set_option linter.unusedVariables false
set_option linter.unusedSimpArgs false
open Go.Proofs.YthjcmodhleoocaaGreatDoor.TP (Lab LabOf)
/-- The labels lie in block bl. -/
def LB (w : World) (bl : Nat) (L : List Lab) : Prop := ∀ (j : Nat) x, L[j]? = some x → w.cell? ⟨bl, j * 3, none⟩ = some (.int .i64 (x.pre : Int)) ∧ w.cell? ⟨bl, j * 3 + 1, none⟩ = some (.int .i64 (x.post : Int)) ∧ w.cell? ⟨bl, j * 3 + 2, none⟩ = some (.int .i64 (x.dep : Int))
theorem LB.below {w w' : World} {bl : Nat} {L : List Lab} (h : LB w bl L) (hb : Below w.heap.size w w') : LB w' bl L := fun j x hx => by
  obtain ⟨h1, h2, h3⟩ := h j x hx
  exact ⟨(hb.cell (World.block_lt_of_cell? _ _ h1)).trans h1, (hb.cell (World.block_lt_of_cell? _ _ h2)).trans h2, (hb.cell (World.block_lt_of_cell? _ _ h3)).trans h3⟩
/-- Take number i first: it is not wanted. -/
theorem tkU {P : Program} {ops : Array Oper} {Q : Exit → Act → World → Prop} {md : Region.Mode} {S : World → Prop} {m : Nat} (i : Nat) (N : Tmp) {oi : Oper} {fuel : Nat} {l l' : Array Bool} {a a' : Act} {w : World} (hL : lastB md ops m = true) (hS : S w)
    (him : i ≠ m := by decide) (hl : l.setIfInBounds i true = l' := by simp only [List.setIfInBounds_toArray, List.set_cons_zero, List.set_cons_succ]; rfl)
    (hi : ops[i]? = some oi := by rfl) (hN : oi.dst = some N := by rfl) (hcl : closedB md ops l = true := by kernel_rfl) (hs : Region.noSelect ops = true := by kernel_rfl) (hf : Region.free md ops l i = true := by kernel_rfl) (hr : (Region.ready md ops l).contains i = true := by kernel_rfl)
    (hQ : ∀ c a w, Q (.panic c) (a.put oi.dst undef) w → Q (.panic c) a w := by exact fun _ _ _ h => h) (hw : Region.wanted oi (yielded ops a.tmps) = false := by rfl)
    (ha : a.put (some N) undef = a' := by simp only [Act.put, List.setIfInBounds_toArray, List.set_cons_zero, List.set_cons_succ]; rfl)
    (h : wpAnyT P md ops Q S m fuel l' a' w) : wpAnyT P md ops Q S m (fuel + 1) l a w := by
  subst hl; subst ha
  exact T_first hL him hi (Region.noSelect_spec hs) hQ fuel l a w (closed_of hcl) (Region.free_spec hi hf) (by simpa using hr) (.inr ⟨hw, rfl⟩) hS (by rw [hN]; exact h)
/-- What the innermost round keeps. -/
structure TW (w0 w : World) (cb : Nat) (X : Array Value) (b1 : Nat) (r1 : Array Value) (b2 : Nat) (r2 : Array Value) (bl : Nat) (L : List Lab) : Prop where
  bx : Bx w0 w cb X 30
  h1 : w.heap[b1]? = some (.cells r1 33 (0, 0))
  h2 : w.heap[b2]? = some (.cells r2 33 (0, 0))
  lb : LB w bl L
theorem TW.up {w0 w w' : World} {cb : Nat} {X : Array Value} {b1 : Nat} {r1 : Array Value} {b2 : Nat} {r2 : Array Value} {bl : Nat} {L : List Lab} (h : TW w0 w cb X b1 r1 b2 r2 bl L) (hb : Below w.heap.size w w') : TW w0 w' cb X b1 r1 b2 r2 bl L :=
  ⟨h.bx.up hb, blk_below h.h1 hb, blk_below h.h2 hb, h.lb.below hb⟩
theorem TW.drew {w0 w : World} {cb : Nat} {X : Array Value} {b1 : Nat} {r1 : Array Value} {b2 : Nat} {r2 : Array Value} {bl : Nat} {L : List Lab} (h : TW w0 w cb X b1 r1 b2 r2 bl L) : TW w0 w.drew cb X b1 r1 b2 r2 bl L :=
  ⟨h.bx.drew, h.h1, h.h2, h.lb⟩
theorem is_own {w : World} {base g c n : Nat} {xs : List Value} {ps : List Int} (h : w.ownsRow base 3 1 (.slice (some ⟨g, 0, none⟩) n c) n xs) (hn : n = ps.length) (hc : n ≤ c) (hm : c ≤ maxLen) (hx : ∀ (i : Nat) z, ps[i]? = some z → xs[i]? = some (.int .i64 z) ∧ I64 z) : Is w (.slice (some ⟨g, 0, none⟩) n c) ps := by
  subst hn
  refine ⟨some ⟨g, 0, none⟩, c, rfl, hc, hm, fun i z hz => ⟨⟨g, 0, none⟩, [.int .i64 z], rfl, ⟨rfl, (hx i z hz).2⟩, fun j u hu => ?_⟩⟩
  match j, hu with
  | 0, hu =>
    cases hu
    rw [if_pos rfl, Nat.mul_one]
    have hi := (List.getElem?_eq_some_iff.1 hz).1
    have := (h.cellAt i (by omega)).trans (hx i z hz).1
    by_cases e : i = 0
    · subst e; exact this
    · unfold Addr.add
      rw [if_neg e]
      simpa using this
set_option maxRecDepth 100000 in
set_option maxHeartbeats 64000000 in
theorem topC (w : World) (a t x r k h l : Value) (C : Co) (H : Cp w a t x r k h l C) : Calls Tryz.prog 3 #[.agg #[a, t, x, r, k, h, l]] w fun r w' => r = .returned (.bool true) ∧ Below w.heap.size w w' := by
  have H0 := H
  obtain ⟨_, ⟨A1, c1, rfl, _, _, _⟩, _, _, ⟨A, c, rfl, hnc, hcm, hR⟩, _, _⟩ := H
  obtain ⟨n1, hn1⟩ : ∃ n, n = C.tks.length := ⟨_, rfl⟩
  obtain ⟨n, hn⟩ : ∃ n, n = C.nds.length := ⟨_, rfl⟩
  rw [← hn1, ← hn] at H0 ⊢
  have KN := Lib.hid hR
  have NN := Lib.hid hn
  have N1 := Lib.hid hn1
  have HC := Lib.hid H0
  clear hR hn hn1 H0 hnc hcm
  have HX := Bx.new w #[a, .slice A1 n1 c1, x, r, .slice A n c, h, l] 30
  have CT := Lib.hid (tiny6 (w.alloc (.cells #[a, .slice A1 n1 c1, x, r, .slice A n c, h, l] 30)) _ _ _ _ _ _ _ C 80 (by omega) (HC.out.below HX.b))
  go_enter Tryz.func3, Tryz.ntmps3
  go_wp2_with fail
  obtain ⟨cb, hcb⟩ : ∃ cb, cb = w.heap.size := ⟨_, rfl⟩
  rw [← hcb]
  rw [← hcb] at HX
  clear hcb
  generalize w.alloc (.cells #[a, .slice A1 n1 c1, x, r, .slice A n c, h, l] 30) = w1 at *
  refine CT.out.mono ?_
  rintro rr w2 ⟨⟨b, rfl, hb⟩, HB⟩
  replace HX := HX.up HB
  clear HB CT
  cases b with
  | false =>
    go_wp2_with fail
    go_ret
    exact ⟨rfl, HX.b⟩
  | true =>
    obtain ⟨⟨htx, D, hok⟩, hn40, hm80⟩ := hb rfl
    clear hb
    rw [← NN.out] at hn40
    rw [← N1.out] at hm80
    have HOK := Lib.hid hok
    have HTX := Lib.hid htx
    have hF := Lib.hid (nd_forest hok)
    have hP := Lib.hid (nd_pre hok)
    have hD := Lib.hid (nd_dn hok)
    clear hok htx
    have g4 := HX.c 4
    simp at g4
    go_wp2_with (at_make; refine mk27 rfl _ _ rfl n _ _ rfl rfl (by omega) ?_; intro w3 HO HG; have HX3 := HX.up (grown_below HG); have g4' := HX3.c 4; simp at g4')
    have hpb : w.heap.size ≤ w2.heap.size := HX.b.size
    obtain ⟨pb, hpb2⟩ : ∃ pb, pb = w2.heap.size := ⟨_, rfl⟩
    have hcp := HX.lt
    rw [← hpb2] at HO hpb hcp ⊢
    have HPB := Lib.hid (And.intro hpb hcp)
    clear HX HG hpb2 hpb hcp g4 g4'
    go_loopg [27] n (fun q v w' => ∃ i : Nat, ∃ xs : List Value, i + q = n ∧ v = .int .i64 i ∧ Aside (Bx w w' cb #[a, .slice A1 n1 c1, x, r, .slice A n c, h, l] 30) ∧ Aside (w'.ownsRow pb 3 1 (.slice (some ⟨pb, 0, none⟩) n n) n xs) ∧ Aside (xs.length = n ∧ ∀ (j : Nat) y, j < i → C.nds[j]? = some y → xs[j]? = some (.int .i64 y.p)))
    case atStart => exact ⟨0, _, by omega, rfl, ⟨HX3⟩, ⟨HO⟩, ⟨by simp, fun j y hj => by omega⟩⟩
    case round =>
      clear HX3 HO
      obtain ⟨i, xs, hi, rfl, HX, HO, HXS⟩ := hrel
      by_cases hlt : i < n
      · have hNi : C.nds[i]? = some (C.nds[i]'(by have := NN.out; omega)) := List.getElem?_eq_getElem (by have := NN.out; omega)
        obtain ⟨ak, r1, rfl, ⟨rfl, _, _, _, _⟩, hA⟩ := KN.out i _ hNi
        generalize C.nds[i]'(by have := NN.out; omega) = y at *
        have p0 : (0 : Int) ≤ i := by omega
        have p1 : decide ((i : Int) < n) = true := by simpa using hlt
        have hA1 := hA.below HX.out.b
        have e0 := hA1.c0
        have e1 := hA1.c1
        have e2 := hA1.c2
        have e3 := hA1.c3
        have HO2 := HO.out.alloc (.cells #[.string y.nm, .int .i64 y.b, .int .i64 y.e, .int .i64 y.p] 33)
        have HX2 := HX.out.alloc (.cells #[.string y.nm, .int .i64 y.b, .int .i64 y.e, .int .i64 y.p] 33)
        obtain ⟨zo, hzo⟩ : ∃ zo, xs[i]? = some zo := ⟨_, List.getElem?_eq_getElem (by have := HXS.out.1; omega)⟩
        have q0 := (HO2.cellAt i (by omega)).trans hzo
        have q1 := HO2.frozenAt i
        have HO3 := (HO2.stored i (.int .i64 y.p)).1
        have HX3 := HX2.set (p := ⟨pb, i, none⟩) (by have := HPB.out; show cb ≠ pb; omega) (by have := HPB.out; show w.heap.size ≤ pb; omega) (.int .i64 y.p)
        have HXN : (xs.set i (.int .i64 y.p)).length = n ∧ ∀ (j : Nat) y', j < i + 1 → C.nds[j]? = some y' → (xs.set i (.int .i64 y.p))[j]? = some (.int .i64 y'.p) := ⟨by simpa using HXS.out.1, fun j y' hj hy' => by
          by_cases e : j = i
          · subst e; rw [hNi] at hy'; cases hy'; rw [List.getElem?_set_self (by have := HXS.out.1; omega)]
          · rw [List.getElem?_set_ne (by omega)]; exact HXS.out.2 j y' (by omega) hy'⟩
        have RN := Lib.hid (And.intro HX3 (And.intro HO3 HXN))
        clear hA hA1 HO2 HX2 HO3 HX3 HXN hNi hzo
        go_wp2_with fail
        go_roundg (gk - 1)
        case measure => omega
        case rel => exact ⟨i + 1, _, by omega, rfl, ⟨RN.out.1⟩, ⟨RN.out.2.1⟩, ⟨RN.out.2.2⟩⟩
      · have p1 : decide ((i : Int) < n) = false := by simpa using hlt
        have HIs : Is wr (.slice (some ⟨pb, 0, none⟩) n n) (psOf C.nds) := is_own HO.out (by rw [ps_len]; exact NN.out) (Nat.le_refl _) (by unfold maxLen; omega) (fun j z hz => by
          unfold psOf at hz
          rw [List.getElem?_map] at hz
          cases hy : C.nds[j]? with
          | none => rw [hy] at hz; cases hz
          | some y =>
            rw [hy] at hz
            cases hz
            have hj := (List.getElem?_eq_some_iff.1 hy).1
            obtain ⟨a2, r2, _, ⟨_, _, _, _, h4⟩, _⟩ := KN.out j y hy
            exact ⟨HXS.out.2 j y (by have := NN.out; omega) hy, h4⟩)
        have CA := Lib.hid (assign6 wr _ (psOf C.nds) HIs (fun j z hz => by
          have hj := (List.getElem?_eq_some_iff.1 hz).1
          have h1 := hD.out j hj
          have e : TP.rdi (psOf C.nds) (j : Int) = z := by unfold TP.rdi; rw [Int.toNat_natCast, List.getD_eq_getElem?_getD, hz]; rfl
          rw [e] at h1
          exact h1) hF.out (by rw [ps_len]; have := NN.out; omega))
        have HX' := HX.out
        clear HIs HO HX HXS
        go_wp2_with fail
        refine CA.out.mono ?_
        rintro rr w4 ⟨⟨bl, tt, rfl, _, hlab, hlb⟩, HB⟩
        rw [ps_len, ← NN.out]
        replace HX' := HX'.up HB
        have g4 := HX'.c 4
        simp at g4
        go_wp2_with fail
        obtain ⟨L, hL⟩ : ∃ L, L = tt.L := ⟨_, rfl⟩
        rw [← hL] at hlab hlb
        have HLB : LB w4 bl L := hlb
        have HLA := Lib.hid hlab
        clear hL hlab hlb CA HB g4
        go_loopg [56] n (fun q v w' => ∃ i : Nat, i + q = n ∧ v = .int .i64 i ∧ Aside (Bx w w' cb #[a, .slice A1 n1 c1, x, r, .slice A n c, h, l] 30) ∧ Aside (LB w' bl L))
        case atStart => exact ⟨0, by omega, rfl, ⟨HX'⟩, ⟨HLB⟩⟩
        case round =>
          clear HX' HLB
          obtain ⟨i, hi, rfl, HX, HLB⟩ := hrel
          by_cases hlt : i < n
          · have hNi : C.nds[i]? = some (C.nds[i]'(by have := NN.out; omega)) := List.getElem?_eq_getElem (by have := NN.out; omega)
            obtain ⟨ak, r1, rfl, ⟨rfl, _, _, _, _⟩, hA⟩ := KN.out i _ hNi
            generalize C.nds[i]'(by have := NN.out; omega) = yi at *
            have hLi : L[i]? = some (L[i]'(by rw [HLA.out.len, ps_len]; have := NN.out; omega)) := List.getElem?_eq_getElem _
            generalize L[i]'(by rw [HLA.out.len, ps_len]; have := NN.out; omega) = li at *
            have hpre := pre_id HLA.out hP.out hD.out i li hLi
            have p0 : (0 : Int) ≤ i := by omega
            have p1 : decide ((i : Int) < n) = true := by simpa using hlt
            have hA1 := hA.below HX.out.b
            have e0 := hA1.c0
            have e1 := hA1.c1
            have e2 := hA1.c2
            have e3 := hA1.c3
            have HX2 := HX.out.alloc (.cells #[.string yi.nm, .int .i64 yi.b, .int .i64 yi.e, .int .i64 yi.p] 33)
            have HT1 := blk_new wr (.cells #[.string yi.nm, .int .i64 yi.b, .int .i64 yi.e, .int .i64 yi.p] 33)
            have HLB2 := HLB.out.below ((Below.refl wr.heap.size wr).alloc (Nat.le_refl _) (.cells #[.string yi.nm, .int .i64 yi.b, .int .i64 yi.e, .int .i64 yi.p] 33))
            have f0 := (HLB2 i li hLi).1
            rw [hpre] at f0
            have g4 := HX2.c 4
            simp at g4
            have z0 : ((i : Int) != i) = false := by simp
            have HNI := Lib.hid hNi
            have HLI := Lib.hid hLi
            clear hA hA1 hNi hLi hpre
            go_wp2_with fail
            obtain ⟨b1, hb1⟩ : ∃ b1, b1 = wr.heap.size := ⟨_, rfl⟩
            rw [← hb1]
            rw [← hb1] at HT1
            clear hb1 e0 e1 e2 e3 f0 g4 z0 HX HLB
            generalize wr.alloc (.cells #[.string yi.nm, .int .i64 yi.b, .int .i64 yi.e, .int .i64 yi.p] 33) = w5 at *
            go_loopg [71] n (fun q v w' => ∃ kk : Nat, kk + q = n ∧ v = .int .i64 kk ∧ Aside (Bx w w' cb #[a, .slice A1 n1 c1, x, r, .slice (some ak) n c, h, l] 30) ∧ Aside (w'.heap[b1]? = some (.cells #[.string yi.nm, .int .i64 yi.b, .int .i64 yi.e, .int .i64 yi.p] 33 (0, 0))) ∧ Aside (LB w' bl L))
            case atStart => exact ⟨0, by omega, rfl, ⟨HX2⟩, ⟨HT1⟩, ⟨HLB2⟩⟩
            case round =>
              clear HX2 HT1 HLB2
              obtain ⟨kk, hkk, rfl, HX, HT1, HLB⟩ := hrel
              by_cases hlt2 : kk < n
              · have hNk : C.nds[kk]? = some (C.nds[kk]'(by have := NN.out; omega)) := List.getElem?_eq_getElem (by have := NN.out; omega)
                obtain ⟨ak2, r2, hak, ⟨rfl, _, _, _, _⟩, hA⟩ := KN.out kk _ hNk
                cases hak
                generalize C.nds[kk]'(by have := NN.out; omega) = yk at *
                have hLk : L[kk]? = some (L[kk]'(by rw [HLA.out.len, ps_len]; have := NN.out; omega)) := List.getElem?_eq_getElem _
                generalize L[kk]'(by rw [HLA.out.len, ps_len]; have := NN.out; omega) = lk at *
                have p2 : (0 : Int) ≤ kk := by omega
                have p3 : decide ((kk : Int) < n) = true := by simpa using hlt2
                have hA1 := hA.below HX.out.b
                have e0 := hA1.c0
                have e1 := hA1.c1
                have e2 := hA1.c2
                have e3 := hA1.c3
                have HT := Lib.hid (show TW w (wr.alloc (.cells #[.string yk.nm, .int .i64 yk.b, .int .i64 yk.e, .int .i64 yk.p] 33)) cb #[a, .slice A1 n1 c1, x, r, .slice (some ak) n c, h, l] b1 #[.string yi.nm, .int .i64 yi.b, .int .i64 yi.e, .int .i64 yi.p] wr.heap.size #[.string yk.nm, .int .i64 yk.b, .int .i64 yk.e, .int .i64 yk.p] bl L from ⟨HX.out.alloc _, blk_alloc HT1.out _, blk_new _ _, HLB.out.below ((Below.refl wr.heap.size wr).alloc (Nat.le_refl _) _)⟩)
                have g3 := blk_cell HT.out.h1 3
                simp at g3
                have HNK := Lib.hid hNk
                have HLK := Lib.hid hLk
                clear hA hA1 hNk hLk
                go_wp2_with fail
                obtain ⟨b2, hb2⟩ : ∃ b2, b2 = wr.heap.size := ⟨_, rfl⟩
                rw [← hb2]
                rw [← hb2] at HT
                clear hb2 e0 e1 e2 e3 g3 HX HLB HT1
                generalize wr.alloc (.cells #[.string yk.nm, .int .i64 yk.b, .int .i64 yk.e, .int .i64 yk.p] 33) = w6 at *
                have g4 := HT.out.bx.c 4
                simp at g4
                have hri := Lib.hid (hD.out i (by rw [ps_len]; have := NN.out; omega))
                go_loopg [13, 14] n (fun q u v w' => ∃ bb : Bool, ∃ pp : Int, u = .bool bb ∧ v = .int .i64 pp ∧ w' = w6 ∧ -1 ≤ pp ∧ pp < n ∧ pp + 1 ≤ q ∧ Aside ((bb = true ∨ ∃ m, TP.up (psOf C.nds) m pp = (kk : Int)) ↔ Above (psOf C.nds) kk i))
                case atStart => exact ⟨false, yi.p, rfl, rfl, rfl, by have := hri.out; rw [rdi_ps HNI.out] at this; omega, by have := hri.out; rw [rdi_ps HNI.out] at this; omega, by have := hri.out; rw [rdi_ps HNI.out] at this; omega, ⟨by unfold Above; rw [rdi_ps HNI.out]; simp⟩⟩
                case round =>
                  obtain ⟨bb, pp, rfl, rfl, rfl, q1, q2, q3, HAB⟩ := hrel
                  by_cases hpp : 0 ≤ pp
                  · obtain ⟨j, rfl⟩ := Int.eq_ofNat_of_zero_le hpp
                    have hNj : C.nds[j]? = some (C.nds[j]'(by have := NN.out; omega)) := List.getElem?_eq_getElem (by have := NN.out; omega)
                    obtain ⟨ak2, r2, hak, ⟨rfl, _, _, _, _⟩, hA⟩ := KN.out j _ hNj
                    cases hak
                    generalize C.nds[j]'(by have := NN.out; omega) = yj at *
                    have f3 := (hA.below HT.out.bx.b).c3
                    have z1 : decide ((0 : Int) ≤ (j : Int)) = true := decide_eq_true hpp
                    have z2 : decide ((j : Int) < n) = true := decide_eq_true q2
                    have hrj := hD.out j (by rw [ps_len]; have := NN.out; omega)
                    rw [rdi_ps hNj] at hrj
                    have hstep := rdi_ps hNj
                    have HRJ := Lib.hid (And.intro hrj hstep)
                    clear hA hrj hstep hNj
                    cases bb with
                    | true =>
                      go_wp2_with fail
                      go_roundg (yj.p + 1).toNat
                      case measure => have := HRJ.out.1; omega
                      case rel => exact ⟨true, yj.p, rfl, rfl, rfl, HRJ.out.1.1, by have := HRJ.out.1; omega, by have := HRJ.out.1; omega, ⟨⟨fun _ => HAB.out.1 (.inl (by trivial)), fun _ => .inl (by trivial)⟩⟩⟩
                    | false =>
                      cases d1 : ((j : Int) == (kk : Int)) with
                      | true =>
                        have hjk : j = kk := by have : (j : Int) = kk := by simpa using d1
                                                omega
                        have HJK := Lib.hid hjk
                        clear hjk
                        go_wp2_with fail
                        go_roundg (yj.p + 1).toNat
                        case measure => have := HRJ.out.1; omega
                        case rel => exact ⟨true, yj.p, rfl, rfl, rfl, HRJ.out.1.1, by have := HRJ.out.1; omega, by have := HRJ.out.1; omega, ⟨⟨fun _ => HAB.out.1 (.inr ⟨0, by rw [← HJK.out]; rfl⟩), fun _ => .inl (by trivial)⟩⟩⟩
                      | false =>
                        have hjk : j ≠ kk := by have : (j : Int) ≠ kk := by simpa using d1
                                                omega
                        have HJK := Lib.hid hjk
                        clear hjk
                        go_wp2_with fail
                        go_roundg (yj.p + 1).toNat
                        case measure => have := HRJ.out.1; omega
                        case rel => exact ⟨false, yj.p, rfl, rfl, rfl, HRJ.out.1.1, by have := HRJ.out.1; omega, by have := HRJ.out.1; omega, ⟨⟨fun h => by
                          rcases h with h | ⟨m, hm⟩
                          · cases h
                          · exact HAB.out.1 (.inr ⟨m + 1, by rw [TP.up_succ, TP.stp_nn (by omega), HRJ.out.2]; exact hm⟩), fun h => by
                          rcases HAB.out.2 h with h | ⟨m, hm⟩
                          · cases h
                          · cases m with
                            | zero => have e : (j : Int) = (kk : Int) := hm; exact absurd (by omega) HJK.out
                            | succ m => rw [TP.up_succ, TP.stp_nn (by omega), HRJ.out.2] at hm; exact .inr ⟨m, hm⟩⟩⟩⟩
                  · have z1 : decide ((0 : Int) ≤ pp) = false := decide_eq_false hpp
                    have hab : bb = true ↔ Above (psOf C.nds) kk i := by
                      rw [← HAB.out]
                      refine ⟨fun h => .inl h, fun h => ?_⟩
                      rcases h with h | ⟨m, hm⟩
                      · exact h
                      · rw [TP.up_neg m (by omega)] at hm; omega
                    have hdi := dom_iff hF.out HLA.out (k := kk) (i := i) (by rw [ps_len]; have := NN.out; omega) (by rw [ps_len]; have := NN.out; omega) HLK.out HLI.out
                    have hdom : (decide ((lk.pre : Int) < (li.pre : Int)) && decide ((li.post : Int) < (lk.post : Int))) = bb := by
                      rw [Bool.eq_iff_iff, hab, ← hdi, Bool.and_eq_true, decide_eq_true_eq, decide_eq_true_eq]
                      constructor <;> intro h <;> exact ⟨by omega, by omega⟩
                    have CD : ∀ w4, Calls Tryz.prog 7 #[.agg #[.int .i64 lk.pre, .int .i64 lk.post, .int .i64 lk.dep], .agg #[.int .i64 li.pre, .int .i64 li.post, .int .i64 li.dep]] w4 fun r w' => r = .returned (.bool bb) ∧ Below w4.heap.size w4 w' := fun w4 => by
                      have := dom7 w4 lk.pre lk.post lk.dep li.pre li.post li.dep
                      rw [hdom] at this
                      exact this
                    obtain ⟨pv, hpv⟩ : ∃ pv, pv = (decide ((lk.pre : Int) < (li.pre : Int)) && decide ((lk.post : Int) < (li.post : Int))) := ⟨_, rfl⟩
                    have CPR : ∀ w4, Calls Tryz.prog 8 #[.agg #[.int .i64 lk.pre, .int .i64 lk.post, .int .i64 lk.dep], .agg #[.int .i64 li.pre, .int .i64 li.post, .int .i64 li.dep]] w4 fun r w' => r = .returned (.bool pv) ∧ Below w4.heap.size w4 w' := fun w4 => by
                      have := pre8 w4 lk.pre lk.post lk.dep li.pre li.post li.dep
                      rw [← hpv] at this
                      exact this
                    have hns : bb = true → yk.b ≤ yi.b ∧ yi.e ≤ yk.e := fun h => by
                      obtain ⟨m, hm⟩ := above_sub (hab.1 h)
                      exact nested HOK.out m i kk yi yk HNI.out HNK.out hm
                    have hpr : pv = true → yk.e ≤ yi.b := fun h => by
                      rw [h] at hpv
                      have h2 := hpv.symm
                      rw [Bool.and_eq_true, decide_eq_true_eq, decide_eq_true_eq] at h2
                      obtain ⟨h3, h4⟩ := prec_iff HLA.out hP.out hD.out (k := kk) (i := i) (by rw [ps_len]; have := NN.out; omega) (by rw [ps_len]; have := NN.out; omega) HLK.out HLI.out ⟨by omega, by omega⟩
                      exact before HOK.out i kk yi yk HNI.out HNK.out h3 h4
                    have HSF : ∀ w', TW w w' cb #[a, .slice A1 n1 c1, x, r, .slice (some ak) n c, h, l] b1 #[.string yi.nm, .int .i64 yi.b, .int .i64 yi.e, .int .i64 yi.p] b2 #[.string yk.nm, .int .i64 yk.b, .int .i64 yk.e, .int .i64 yk.p] bl L → w'.cell? ⟨bl, kk * 3, none⟩ = some (.int .i64 (lk.pre : Int)) ∧ w'.cell? ⟨bl, kk * 3 + 1, none⟩ = some (.int .i64 (lk.post : Int)) ∧ w'.cell? ⟨bl, kk * 3 + 2, none⟩ = some (.int .i64 (lk.dep : Int)) ∧ w'.cell? ⟨bl, i * 3, none⟩ = some (.int .i64 (li.pre : Int)) ∧ w'.cell? ⟨bl, i * 3 + 1, none⟩ = some (.int .i64 (li.post : Int)) ∧ w'.cell? ⟨bl, i * 3 + 2, none⟩ = some (.int .i64 (li.dep : Int)) ∧ w'.cell? ⟨b1, 1, none⟩ = some (.int .i64 yi.b) ∧ w'.cell? ⟨b1, 2, none⟩ = some (.int .i64 yi.e) ∧ w'.cell? ⟨b2, 1, none⟩ = some (.int .i64 yk.b) ∧ w'.cell? ⟨b2, 2, none⟩ = some (.int .i64 yk.e) ∧ Aside (TW w w' cb #[a, .slice A1 n1 c1, x, r, .slice (some ak) n c, h, l] b1 #[.string yi.nm, .int .i64 yi.b, .int .i64 yi.e, .int .i64 yi.p] b2 #[.string yk.nm, .int .i64 yk.b, .int .i64 yk.e, .int .i64 yk.p] bl L) := fun w' hT => ⟨(hT.lb kk lk HLK.out).1, (hT.lb kk lk HLK.out).2.1, (hT.lb kk lk HLK.out).2.2, (hT.lb i li HLI.out).1, (hT.lb i li HLI.out).2.1, (hT.lb i li HLI.out).2.2, blk_cell hT.h1 1, blk_cell hT.h1 2, blk_cell hT.h2 1, blk_cell hT.h2 2, ⟨hT⟩⟩
                    clear hab hdi hdom hpv HAB g4
                    cases bb with
                    | true =>
                      obtain ⟨t1, t2⟩ := hns rfl
                      have d1 : decide (yi.b < yk.b) = false := decide_eq_false (by omega)
                      have d2 : decide (yk.e < yi.e) = false := decide_eq_false (by omega)
                      clear hns t1 t2
                      cases pv with
                      | true =>
                        have d3 : decide (yi.b < yk.e) = false := decide_eq_false (by have := hpr rfl; omega)
                        clear hpr
                        go_wp2_with fail
                        have hS := HSF _ HT.out.drew
                        go_region_held3 (fun w' => w'.cell? ⟨bl, kk * 3, none⟩ = some (.int .i64 (lk.pre : Int)) ∧ w'.cell? ⟨bl, kk * 3 + 1, none⟩ = some (.int .i64 (lk.post : Int)) ∧ w'.cell? ⟨bl, kk * 3 + 2, none⟩ = some (.int .i64 (lk.dep : Int)) ∧ w'.cell? ⟨bl, i * 3, none⟩ = some (.int .i64 (li.pre : Int)) ∧ w'.cell? ⟨bl, i * 3 + 1, none⟩ = some (.int .i64 (li.post : Int)) ∧ w'.cell? ⟨bl, i * 3 + 2, none⟩ = some (.int .i64 (li.dep : Int)) ∧ w'.cell? ⟨b1, 1, none⟩ = some (.int .i64 yi.b) ∧ w'.cell? ⟨b1, 2, none⟩ = some (.int .i64 yi.e) ∧ w'.cell? ⟨b2, 1, none⟩ = some (.int .i64 yk.b) ∧ w'.cell? ⟨b2, 2, none⟩ = some (.int .i64 yk.e) ∧ Aside (TW w w' cb #[a, .slice A1 n1 c1, x, r, .slice (some ak) n c, h, l] b1 #[.string yi.nm, .int .i64 yi.b, .int .i64 yi.e, .int .i64 yi.p] b2 #[.string yk.nm, .int .i64 yk.b, .int .i64 yk.e, .int .i64 yk.p] bl L)) (first | exact hS | exact HSF _ (HT.out.drew.up hb4))
                          (first | (go_at_call 7; refine (CD _).mono ?_; rintro r w4 ⟨rfl, hb4⟩))
                        have HT2 := Lib.hid ((by assumption : _ ∧ _ ∧ _ ∧ _ ∧ _ ∧ _ ∧ _ ∧ _ ∧ _ ∧ _ ∧ Aside (TW w _ cb #[a, .slice A1 n1 c1, x, r, .slice (some ak) n c, h, l] b1 #[.string yi.nm, .int .i64 yi.b, .int .i64 yi.e, .int .i64 yi.p] b2 #[.string yk.nm, .int .i64 yk.b, .int .i64 yk.e, .int .i64 yk.p] bl L)).2.2.2.2.2.2.2.2.2.2.out)
                        clear hS
                        obtain ⟨f0, f1, f2, f3, f4, f5, f6, f7, f8, f9, _⟩ := HSF _ HT2.out
                        go_wp2_with fail
                        have hS := HSF _ HT2.out.drew
                        go_region_held3 (fun w' => w'.cell? ⟨bl, kk * 3, none⟩ = some (.int .i64 (lk.pre : Int)) ∧ w'.cell? ⟨bl, kk * 3 + 1, none⟩ = some (.int .i64 (lk.post : Int)) ∧ w'.cell? ⟨bl, kk * 3 + 2, none⟩ = some (.int .i64 (lk.dep : Int)) ∧ w'.cell? ⟨bl, i * 3, none⟩ = some (.int .i64 (li.pre : Int)) ∧ w'.cell? ⟨bl, i * 3 + 1, none⟩ = some (.int .i64 (li.post : Int)) ∧ w'.cell? ⟨bl, i * 3 + 2, none⟩ = some (.int .i64 (li.dep : Int)) ∧ w'.cell? ⟨b1, 1, none⟩ = some (.int .i64 yi.b) ∧ w'.cell? ⟨b1, 2, none⟩ = some (.int .i64 yi.e) ∧ w'.cell? ⟨b2, 1, none⟩ = some (.int .i64 yk.b) ∧ w'.cell? ⟨b2, 2, none⟩ = some (.int .i64 yk.e) ∧ Aside (TW w w' cb #[a, .slice A1 n1 c1, x, r, .slice (some ak) n c, h, l] b1 #[.string yi.nm, .int .i64 yi.b, .int .i64 yi.e, .int .i64 yi.p] b2 #[.string yk.nm, .int .i64 yk.b, .int .i64 yk.e, .int .i64 yk.p] bl L)) (first | exact hS | exact HSF _ (HT2.out.drew.up hb5))
                          (first | (go_at_call 8; refine (CPR _).mono ?_; rintro r w5 ⟨rfl, hb5⟩))
                        have HT3 := Lib.hid ((by assumption : _ ∧ _ ∧ _ ∧ _ ∧ _ ∧ _ ∧ _ ∧ _ ∧ _ ∧ _ ∧ Aside (TW w _ cb #[a, .slice A1 n1 c1, x, r, .slice (some ak) n c, h, l] b1 #[.string yi.nm, .int .i64 yi.b, .int .i64 yi.e, .int .i64 yi.p] b2 #[.string yk.nm, .int .i64 yk.b, .int .i64 yk.e, .int .i64 yk.p] bl L)).2.2.2.2.2.2.2.2.2.2.out)
                        clear hS f0 f1 f2 f3 f4 f5 f6 f7 f8 f9
                        go_wp2_with fail
                        go_roundg (n - (kk + 1))
                        case measure => omega
                        case rel => exact ⟨kk + 1, by omega, rfl, ⟨HT3.out.bx⟩, ⟨HT3.out.h1⟩, ⟨HT3.out.lb⟩⟩
                      | false =>
                        clear hpr
                        go_wp2_with fail
                        have hS := HSF _ HT.out.drew
                        go_region_held3 (fun w' => w'.cell? ⟨bl, kk * 3, none⟩ = some (.int .i64 (lk.pre : Int)) ∧ w'.cell? ⟨bl, kk * 3 + 1, none⟩ = some (.int .i64 (lk.post : Int)) ∧ w'.cell? ⟨bl, kk * 3 + 2, none⟩ = some (.int .i64 (lk.dep : Int)) ∧ w'.cell? ⟨bl, i * 3, none⟩ = some (.int .i64 (li.pre : Int)) ∧ w'.cell? ⟨bl, i * 3 + 1, none⟩ = some (.int .i64 (li.post : Int)) ∧ w'.cell? ⟨bl, i * 3 + 2, none⟩ = some (.int .i64 (li.dep : Int)) ∧ w'.cell? ⟨b1, 1, none⟩ = some (.int .i64 yi.b) ∧ w'.cell? ⟨b1, 2, none⟩ = some (.int .i64 yi.e) ∧ w'.cell? ⟨b2, 1, none⟩ = some (.int .i64 yk.b) ∧ w'.cell? ⟨b2, 2, none⟩ = some (.int .i64 yk.e) ∧ Aside (TW w w' cb #[a, .slice A1 n1 c1, x, r, .slice (some ak) n c, h, l] b1 #[.string yi.nm, .int .i64 yi.b, .int .i64 yi.e, .int .i64 yi.p] b2 #[.string yk.nm, .int .i64 yk.b, .int .i64 yk.e, .int .i64 yk.p] bl L)) (first | exact hS | exact HSF _ (HT.out.drew.up hb4))
                          (first | (go_at_call 7; refine (CD _).mono ?_; rintro r w4 ⟨rfl, hb4⟩))
                        have HT2 := Lib.hid ((by assumption : _ ∧ _ ∧ _ ∧ _ ∧ _ ∧ _ ∧ _ ∧ _ ∧ _ ∧ _ ∧ Aside (TW w _ cb #[a, .slice A1 n1 c1, x, r, .slice (some ak) n c, h, l] b1 #[.string yi.nm, .int .i64 yi.b, .int .i64 yi.e, .int .i64 yi.p] b2 #[.string yk.nm, .int .i64 yk.b, .int .i64 yk.e, .int .i64 yk.p] bl L)).2.2.2.2.2.2.2.2.2.2.out)
                        clear hS
                        obtain ⟨f0, f1, f2, f3, f4, f5, f6, f7, f8, f9, _⟩ := HSF _ HT2.out
                        go_wp2_with fail
                        refine T_start (fun w' : World => w'.cell? ⟨bl, kk * 3, none⟩ = some (.int .i64 (lk.pre : Int)) ∧ w'.cell? ⟨bl, kk * 3 + 1, none⟩ = some (.int .i64 (lk.post : Int)) ∧ w'.cell? ⟨bl, kk * 3 + 2, none⟩ = some (.int .i64 (lk.dep : Int)) ∧ w'.cell? ⟨bl, i * 3, none⟩ = some (.int .i64 (li.pre : Int)) ∧ w'.cell? ⟨bl, i * 3 + 1, none⟩ = some (.int .i64 (li.post : Int)) ∧ w'.cell? ⟨bl, i * 3 + 2, none⟩ = some (.int .i64 (li.dep : Int)) ∧ w'.cell? ⟨b1, 1, none⟩ = some (.int .i64 yi.b) ∧ w'.cell? ⟨b1, 2, none⟩ = some (.int .i64 yi.e) ∧ w'.cell? ⟨b2, 1, none⟩ = some (.int .i64 yk.b) ∧ w'.cell? ⟨b2, 2, none⟩ = some (.int .i64 yk.e) ∧ Aside (TW w w' cb #[a, .slice A1 n1 c1, x, r, .slice (some ak) n c, h, l] b1 #[.string yi.nm, .int .i64 yi.b, .int .i64 yi.e, .int .i64 yi.p] b2 #[.string yk.nm, .int .i64 yk.b, .int .i64 yk.e, .int .i64 yk.p] bl L)) 15 (n := 16) (by kernel_rfl) rfl rfl ?_
                        have hS := HSF _ HT2.out.drew
                        clear f0 f1 f2 f3 f4 f5 f6 f7 f8 f9
                        simp only [Array.replicate_succ, Array.replicate_zero, List.push_toArray, List.nil_append, List.cons_append]
                        refine tk 0 118 (by kernel_rfl) hS (h := ?_)
                        refine tk 1 119 (by kernel_rfl) hS (h := ?_)
                        refine tk 2 120 (by kernel_rfl) hS (h := ?_)
                        refine tk 3 121 (by kernel_rfl) hS (h := ?_)
                        refine tk 4 122 (by kernel_rfl) hS (h := ?_)
                        refine tk 5 123 (by kernel_rfl) hS (h := ?_)
                        refine tk 6 124 (by kernel_rfl) hS (h := ?_)
                        refine tk 7 125 (by kernel_rfl) hS (h := ?_)
                        refine one 8 (h := ?_)
                        intro K hK
                        go_simp
                        refine (CPR _).mono ?_
                        rintro r w5 ⟨rfl, hb5⟩
                        have HT3 := Lib.hid (HT2.out.drew.up hb5)
                        have hS5 := HSF _ HT3.out
                        refine hK _ _ (fun _ => hS5) ?_
                        clear hK K hS
                        try simp only [Act.put, List.setIfInBounds_toArray, List.set_cons_zero, List.set_cons_succ]
                        refine tk 9 127 (by kernel_rfl) hS5 (h := ?_)
                        refine tkU 10 128 (by kernel_rfl) hS5 (h := ?_)
                        refine tkU 11 129 (by kernel_rfl) hS5 (h := ?_)
                        refine tkU 12 130 (by kernel_rfl) hS5 (h := ?_)
                        refine tkU 13 131 (by kernel_rfl) hS5 (h := ?_)
                        refine tkU 14 132 (by kernel_rfl) hS5 (h := ?_)
                        refine one 15 (h := ?_)
                        intro K hK
                        go_simp
                        refine hK _ _ (fun h => absurd rfl h) (T_done ?_)
                        clear hK K hS5
                        go_wp2_with fail
                        go_roundg (n - (kk + 1))
                        case measure => omega
                        case rel => exact ⟨kk + 1, by omega, rfl, ⟨HT3.out.bx⟩, ⟨HT3.out.h1⟩, ⟨HT3.out.lb⟩⟩
                    | false =>
                      clear hns
                      cases pv with
                      | true =>
                        have d3 : decide (yi.b < yk.e) = false := decide_eq_false (by have := hpr rfl; omega)
                        clear hpr
                        go_wp2_with fail
                        have hS := HSF _ HT.out.drew
                        go_region_held3 (fun w' => w'.cell? ⟨bl, kk * 3, none⟩ = some (.int .i64 (lk.pre : Int)) ∧ w'.cell? ⟨bl, kk * 3 + 1, none⟩ = some (.int .i64 (lk.post : Int)) ∧ w'.cell? ⟨bl, kk * 3 + 2, none⟩ = some (.int .i64 (lk.dep : Int)) ∧ w'.cell? ⟨bl, i * 3, none⟩ = some (.int .i64 (li.pre : Int)) ∧ w'.cell? ⟨bl, i * 3 + 1, none⟩ = some (.int .i64 (li.post : Int)) ∧ w'.cell? ⟨bl, i * 3 + 2, none⟩ = some (.int .i64 (li.dep : Int)) ∧ w'.cell? ⟨b1, 1, none⟩ = some (.int .i64 yi.b) ∧ w'.cell? ⟨b1, 2, none⟩ = some (.int .i64 yi.e) ∧ w'.cell? ⟨b2, 1, none⟩ = some (.int .i64 yk.b) ∧ w'.cell? ⟨b2, 2, none⟩ = some (.int .i64 yk.e) ∧ Aside (TW w w' cb #[a, .slice A1 n1 c1, x, r, .slice (some ak) n c, h, l] b1 #[.string yi.nm, .int .i64 yi.b, .int .i64 yi.e, .int .i64 yi.p] b2 #[.string yk.nm, .int .i64 yk.b, .int .i64 yk.e, .int .i64 yk.p] bl L)) (first | exact hS | exact HSF _ (HT.out.drew.up hb4))
                          (first | (go_at_call 7; refine (CD _).mono ?_; rintro r w4 ⟨rfl, hb4⟩))
                        have HT2 := Lib.hid ((by assumption : _ ∧ _ ∧ _ ∧ _ ∧ _ ∧ _ ∧ _ ∧ _ ∧ _ ∧ _ ∧ Aside (TW w _ cb #[a, .slice A1 n1 c1, x, r, .slice (some ak) n c, h, l] b1 #[.string yi.nm, .int .i64 yi.b, .int .i64 yi.e, .int .i64 yi.p] b2 #[.string yk.nm, .int .i64 yk.b, .int .i64 yk.e, .int .i64 yk.p] bl L)).2.2.2.2.2.2.2.2.2.2.out)
                        clear hS
                        obtain ⟨f0, f1, f2, f3, f4, f5, f6, f7, f8, f9, _⟩ := HSF _ HT2.out
                        go_wp2_with fail
                        have hS := HSF _ HT2.out.drew
                        go_region_held3 (fun w' => w'.cell? ⟨bl, kk * 3, none⟩ = some (.int .i64 (lk.pre : Int)) ∧ w'.cell? ⟨bl, kk * 3 + 1, none⟩ = some (.int .i64 (lk.post : Int)) ∧ w'.cell? ⟨bl, kk * 3 + 2, none⟩ = some (.int .i64 (lk.dep : Int)) ∧ w'.cell? ⟨bl, i * 3, none⟩ = some (.int .i64 (li.pre : Int)) ∧ w'.cell? ⟨bl, i * 3 + 1, none⟩ = some (.int .i64 (li.post : Int)) ∧ w'.cell? ⟨bl, i * 3 + 2, none⟩ = some (.int .i64 (li.dep : Int)) ∧ w'.cell? ⟨b1, 1, none⟩ = some (.int .i64 yi.b) ∧ w'.cell? ⟨b1, 2, none⟩ = some (.int .i64 yi.e) ∧ w'.cell? ⟨b2, 1, none⟩ = some (.int .i64 yk.b) ∧ w'.cell? ⟨b2, 2, none⟩ = some (.int .i64 yk.e) ∧ Aside (TW w w' cb #[a, .slice A1 n1 c1, x, r, .slice (some ak) n c, h, l] b1 #[.string yi.nm, .int .i64 yi.b, .int .i64 yi.e, .int .i64 yi.p] b2 #[.string yk.nm, .int .i64 yk.b, .int .i64 yk.e, .int .i64 yk.p] bl L)) (first | exact hS | exact HSF _ (HT2.out.drew.up hb5))
                          (first | (go_at_call 8; refine (CPR _).mono ?_; rintro r w5 ⟨rfl, hb5⟩))
                        have HT3 := Lib.hid ((by assumption : _ ∧ _ ∧ _ ∧ _ ∧ _ ∧ _ ∧ _ ∧ _ ∧ _ ∧ _ ∧ Aside (TW w _ cb #[a, .slice A1 n1 c1, x, r, .slice (some ak) n c, h, l] b1 #[.string yi.nm, .int .i64 yi.b, .int .i64 yi.e, .int .i64 yi.p] b2 #[.string yk.nm, .int .i64 yk.b, .int .i64 yk.e, .int .i64 yk.p] bl L)).2.2.2.2.2.2.2.2.2.2.out)
                        clear hS f0 f1 f2 f3 f4 f5 f6 f7 f8 f9
                        go_wp2_with fail
                        go_roundg (n - (kk + 1))
                        case measure => omega
                        case rel => exact ⟨kk + 1, by omega, rfl, ⟨HT3.out.bx⟩, ⟨HT3.out.h1⟩, ⟨HT3.out.lb⟩⟩
                      | false =>
                        clear hpr
                        go_wp2_with fail
                        have hS := HSF _ HT.out.drew
                        go_region_held3 (fun w' => w'.cell? ⟨bl, kk * 3, none⟩ = some (.int .i64 (lk.pre : Int)) ∧ w'.cell? ⟨bl, kk * 3 + 1, none⟩ = some (.int .i64 (lk.post : Int)) ∧ w'.cell? ⟨bl, kk * 3 + 2, none⟩ = some (.int .i64 (lk.dep : Int)) ∧ w'.cell? ⟨bl, i * 3, none⟩ = some (.int .i64 (li.pre : Int)) ∧ w'.cell? ⟨bl, i * 3 + 1, none⟩ = some (.int .i64 (li.post : Int)) ∧ w'.cell? ⟨bl, i * 3 + 2, none⟩ = some (.int .i64 (li.dep : Int)) ∧ w'.cell? ⟨b1, 1, none⟩ = some (.int .i64 yi.b) ∧ w'.cell? ⟨b1, 2, none⟩ = some (.int .i64 yi.e) ∧ w'.cell? ⟨b2, 1, none⟩ = some (.int .i64 yk.b) ∧ w'.cell? ⟨b2, 2, none⟩ = some (.int .i64 yk.e) ∧ Aside (TW w w' cb #[a, .slice A1 n1 c1, x, r, .slice (some ak) n c, h, l] b1 #[.string yi.nm, .int .i64 yi.b, .int .i64 yi.e, .int .i64 yi.p] b2 #[.string yk.nm, .int .i64 yk.b, .int .i64 yk.e, .int .i64 yk.p] bl L)) (first | exact hS | exact HSF _ (HT.out.drew.up hb4))
                          (first | (go_at_call 7; refine (CD _).mono ?_; rintro r w4 ⟨rfl, hb4⟩))
                        have HT2 := Lib.hid ((by assumption : _ ∧ _ ∧ _ ∧ _ ∧ _ ∧ _ ∧ _ ∧ _ ∧ _ ∧ _ ∧ Aside (TW w _ cb #[a, .slice A1 n1 c1, x, r, .slice (some ak) n c, h, l] b1 #[.string yi.nm, .int .i64 yi.b, .int .i64 yi.e, .int .i64 yi.p] b2 #[.string yk.nm, .int .i64 yk.b, .int .i64 yk.e, .int .i64 yk.p] bl L)).2.2.2.2.2.2.2.2.2.2.out)
                        clear hS
                        obtain ⟨f0, f1, f2, f3, f4, f5, f6, f7, f8, f9, _⟩ := HSF _ HT2.out
                        go_wp2_with fail
                        refine T_start (fun w' : World => w'.cell? ⟨bl, kk * 3, none⟩ = some (.int .i64 (lk.pre : Int)) ∧ w'.cell? ⟨bl, kk * 3 + 1, none⟩ = some (.int .i64 (lk.post : Int)) ∧ w'.cell? ⟨bl, kk * 3 + 2, none⟩ = some (.int .i64 (lk.dep : Int)) ∧ w'.cell? ⟨bl, i * 3, none⟩ = some (.int .i64 (li.pre : Int)) ∧ w'.cell? ⟨bl, i * 3 + 1, none⟩ = some (.int .i64 (li.post : Int)) ∧ w'.cell? ⟨bl, i * 3 + 2, none⟩ = some (.int .i64 (li.dep : Int)) ∧ w'.cell? ⟨b1, 1, none⟩ = some (.int .i64 yi.b) ∧ w'.cell? ⟨b1, 2, none⟩ = some (.int .i64 yi.e) ∧ w'.cell? ⟨b2, 1, none⟩ = some (.int .i64 yk.b) ∧ w'.cell? ⟨b2, 2, none⟩ = some (.int .i64 yk.e) ∧ Aside (TW w w' cb #[a, .slice A1 n1 c1, x, r, .slice (some ak) n c, h, l] b1 #[.string yi.nm, .int .i64 yi.b, .int .i64 yi.e, .int .i64 yi.p] b2 #[.string yk.nm, .int .i64 yk.b, .int .i64 yk.e, .int .i64 yk.p] bl L)) 15 (n := 16) (by kernel_rfl) rfl rfl ?_
                        have hS := HSF _ HT2.out.drew
                        clear f0 f1 f2 f3 f4 f5 f6 f7 f8 f9
                        simp only [Array.replicate_succ, Array.replicate_zero, List.push_toArray, List.nil_append, List.cons_append]
                        refine tk 0 118 (by kernel_rfl) hS (h := ?_)
                        refine tk 1 119 (by kernel_rfl) hS (h := ?_)
                        refine tk 2 120 (by kernel_rfl) hS (h := ?_)
                        refine tk 3 121 (by kernel_rfl) hS (h := ?_)
                        refine tk 4 122 (by kernel_rfl) hS (h := ?_)
                        refine tk 5 123 (by kernel_rfl) hS (h := ?_)
                        refine tk 6 124 (by kernel_rfl) hS (h := ?_)
                        refine tk 7 125 (by kernel_rfl) hS (h := ?_)
                        refine one 8 (h := ?_)
                        intro K hK
                        go_simp
                        refine (CPR _).mono ?_
                        rintro r w5 ⟨rfl, hb5⟩
                        have HT3 := Lib.hid (HT2.out.drew.up hb5)
                        have hS5 := HSF _ HT3.out
                        refine hK _ _ (fun _ => hS5) ?_
                        clear hK K hS
                        try simp only [Act.put, List.setIfInBounds_toArray, List.set_cons_zero, List.set_cons_succ]
                        refine tk 9 127 (by kernel_rfl) hS5 (h := ?_)
                        refine tkU 10 128 (by kernel_rfl) hS5 (h := ?_)
                        refine tkU 11 129 (by kernel_rfl) hS5 (h := ?_)
                        refine tkU 12 130 (by kernel_rfl) hS5 (h := ?_)
                        refine tkU 13 131 (by kernel_rfl) hS5 (h := ?_)
                        refine tkU 14 132 (by kernel_rfl) hS5 (h := ?_)
                        refine one 15 (h := ?_)
                        intro K hK
                        go_simp
                        refine hK _ _ (fun h => absurd rfl h) (T_done ?_)
                        clear hK K hS5
                        go_wp2_with fail
                        go_roundg (n - (kk + 1))
                        case measure => omega
                        case rel => exact ⟨kk + 1, by omega, rfl, ⟨HT3.out.bx⟩, ⟨HT3.out.h1⟩, ⟨HT3.out.lb⟩⟩
              · have p3 : decide ((kk : Int) < n) = false := by simpa using hlt2
                go_wp2_with fail
                go_roundg (n - (i + 1))
                case measure => omega
                case rel => exact ⟨i + 1, by omega, rfl, HX, HLB⟩
          · have p1 : decide ((i : Int) < n) = false := by simpa using hlt
            have g4 := HX.out.c 4
            have g1 := HX.out.c 1
            simp at g4 g1
            have CB := Lib.hid (bformat9 wr (.slice A n c) C.nds C.txs D n1 ((HC.out.below HX.out.b).nds) HOK.out (by rw [N1.out]; exact HTX.out) (by have := NN.out; omega) (by omega))
            go_wp2_with (first
              | (go_at_call 9; refine CB.out.mono ?_; rintro rr w5 ⟨⟨s, rfl⟩, HB5⟩)
              | (go_at_call 10; refine (awake _).mono ?_; rintro rr w6 ⟨rfl, HB6⟩))
            go_ret
            exact ⟨rfl, ((HX.out.up HB5).up HB6).b⟩
end Go.Proofs.YthjcmodhleoocaaGreatDoor.Z
/- ZRow -/
namespace Go.Proofs.YthjcmodhleoocaaGreatDoor.Z
open Go.ChangeShapes Go.WideShapes Go.ChangeAt Go.RowKit
set_option linter.unusedVariables false
theorem ownK : ownKnob Tryz.prog.godebug = none := by kernel_rfl
theorem laidOut : laidOutB Tryz.prog = true := by kernel_rfl
/-- The listed variables. -/
abbrev laidL : List (String × DataW Unit) := [("unicode/utf8.acceptRanges", Rows.laid_unicode_utf8_acceptRanges), ("unicode/utf8.first", Rows.laid_unicode_utf8_first)]
set_option maxRecDepth 100000 in
theorem topC_lifted (os : Os) (started : os.Started) (H : Type) (enc : TypeId × Value → H) :
    ReturnsInHanded {} Tryz.checked os 3 .any (fun w args => (Rows.topConstituentsSpec.pre enc Tryz.prog Tryz.f3 [] false w args ∧ laidMetH Tryz.prog laidL w) ∧ sizedMet enc Tryz.prog Tryz.f3 (OpenSpec.ofChange Rows.topConstituentsSpec) false w args)
      (Rows.topConstituentsSpec.post enc Tryz.prog Tryz.f3 false true false false) := by
  refine returnsInHanded_of_change_and (C := Tryz.checked) (X := fun w _ => laidMetH Tryz.prog laidL w) (fun _ _ _ hh h => h.of_heap hh) ownK started (by kernel_rfl) Tryz.func3
    (ChangeSpec.witness_shaped (enc := enc) (C := Tryz.checked) (os := os) (X := fun w _ => laidMetH Tryz.prog laidL w) false (World.laidAll Tryz.prog os laidL) #[.agg #[.slice none 0 0, .slice none 0 0, .slice none 0 0, .slice none 0 0, .slice none 0 0, .slice none 0 0, .slice none 0 0]] 8 (World.laidAll_os _ _ _)
      (World.shaped_of_ZipB (by kernel_rfl) (by kernel_rfl)) (by kernel_rfl) (by kernel_rfl) (by kernel_rfl)
      (by rw [MakeChecks.laidMetH_plain _ _ _ (by kernel_rfl)]; exact laidMet_laidAll _ (by kernel_rfl) (by kernel_rfl))) ?_
  intro W base args ds gs before hval0 hW _ _ hL _
  have hval : ∀ (j : Nat) t v, Tryz.f3.params[j]? = some t → args[j]? = some v → Value.okWide Tryz.prog W .any base t v := hval0
  have hW' := hW
  obtain ⟨p, q, hA0, hV, rfl, hfz, hnd⟩ := hW
  have hA : DataW.TrodAll enc Tryz.prog W 0 (fun _ => true) true Tryz.f3.params.toList args.toList ds p := hA0
  rw [Tryz.params3] at hA hval
  obtain ⟨v0, vs0, d0, ds0, p0, q0, hargs, rfl, rfl, h0, r0⟩ := trodAll_cons hA
  obtain ⟨rfl, rfl, rfl⟩ := trodAll_nil r0
  obtain rfl : args = #[v0] := by cases args; simp_all
  obtain ⟨rfl, rfl⟩ := trodVars_none hV
  obtain ⟨cs, rfl, hcs⟩ := okWide_struct Tryz.underlying30 (hval 0 30 v0 rfl rfl)
  have k0 := h0
  have lt0 : ∀ x ∈ p0, x.block < W.heap.size := by obtain ⟨m, hm⟩ := k0; exact DataW.trod_lt m _ _ _ hm
  obtain ⟨fuel, hf⟩ := h0
  obtain ⟨a, t, x, r, k, h, l, C, e, hC⟩ := cp_in hf
  obtain rfl : cs = #[a, t, x, r, k, h, l] := by cases cs; simpa [Value.cells] using e
  clear hA0 hval0
  refine (topC W a t x r k h l C hC).mono fun e W' ⟨he, bel⟩ => ?_
  subst he
  exact ⟨_, rfl, _, _, _, [], _, [], hW', trodAll_mk1 (shut_bool Tryz.underlying4 _), (trodAll_cons_mk (Below.trod laidOut (by kernel_rfl) (of_decide_eq_true (by kernel_rfl)) k0 bel lt0) trodAll_mk0), rfl, bel.frame _, fun h => by cases h⟩
end Go.Proofs.YthjcmodhleoocaaGreatDoor.Z
namespace Go.Proofs.YthjcmodhleoocaaGreatDoor
theorem topConstituents_row : Rows.TopConstituentsSaid :=
  OpenClaim.holds_of_wide 3 Tryz.f3 rfl rfl rfl rfl rfl rfl rfl ⟨rfl, rfl, rfl, rfl, rfl⟩ rfl rfl rfl rfl rfl (by kernel_rfl) Tryz.func3 (by kernel_rfl)
    (of_decide_eq_true (by kernel_rfl)) (by unfold Func.isWrapper; first | (rw [if_pos (by decide +kernel)]; kernel_rfl) | (rw [if_neg (by decide +kernel)]; exact ⟨rfl, rfl⟩))
    (fun os started H enc _ => Z.topC_lifted os started H enc)
end Go.Proofs.YthjcmodhleoocaaGreatDoor
