/- For every corpus that comes in, TopConstituents returns true and leaves the corpus as it was; the listed variables are tied to the program's text. (Part 9.) -/
import Derived.Test.YthjcmodhleoocaaGreatDoorMT7
import Derived.Test.YthjcmodhleoocaaGreatDoorMT8
import Derived.Lib.AppendStr
import Derived.Test.YthjcmodhleoocaaGreatDoorMT4
import Derived.Test.YthjcmodhleoocaaGreatDoorMT6
set_option linter.unusedVariables false
set_option linter.unusedSimpArgs false
set_option linter.unusedSectionVars false
/- ZWrt -/
namespace Go.Proofs.YthjcmodhleoocaaGreatDoor.Z
open Go Go.RowKit Go.Lib
set_option linter.unusedVariables false
set_option linter.unusedSimpArgs false
/-- The writer in block g: its text, its open ends, its place; B bounds the text. -/
structure WS (base : Nat) (w : World) (g : Nat) (B : Nat) (at_ : Int) : Prop where
  h : ∃ (vo vp : Value) (no np : Nat) (xo : List Int) (xp : List Value), w.heap[g]? = some (.cells #[vo, vp, .int .i64 at_] 66 (0, 0)) ∧ w.ownsRow base 5 1 vo no (xo.map (Value.int .u8)) ∧ w.ownsRow base 3 1 vp np xp ∧ (∀ k, k < np → ∃ z : Int, xp[k]? = some (.int .i64 z)) ∧ (np = 0 ∨ 0 < np) ∧ no + 2 * np ≤ B
  g : base ≤ g
theorem own_u8 {w : World} {base n : Nat} {v : Value} {l : List Int} {b : Int} (h : w.ownsRow base 5 1 v n (l.map (Value.int .u8) ++ [.int .u8 b])) : w.ownsRow base 5 1 v n ((l ++ [b]).map (Value.int .u8)) := by rw [List.map_append]; exact h
/-- Blocks of other types stay. -/
structure Kp (base : Nat) (w w' : World) : Prop where
  keep : ∀ (k : Nat) (cs : Array Value) (t : TypeId), t ≠ 66 → t ≠ 5 → t ≠ 3 → w.heap[k]? = some (.cells cs t (0, 0)) → w'.heap[k]? = some (.cells cs t (0, 0))
  b : Below base w w'
theorem Kp.refl (base : Nat) (w : World) : Kp base w w := ⟨fun _ _ _ _ _ _ h => h, Below.refl _ _⟩
theorem Kp.trans {base : Nat} {a b c : World} (h : Kp base a b) (k : Kp base b c) : Kp base a c := ⟨fun i cs t h1 h2 h3 h4 => k.keep i cs t h1 h2 h3 (h.keep i cs t h1 h2 h3 h4), h.b.trans k.b⟩
theorem Kp.alloc {base : Nat} {a b : World} (h : Kp base a b) (hb : base ≤ b.heap.size) (o : Obj) : Kp base a (b.alloc o) := ⟨fun i cs t h1 h2 h3 h4 => blk_alloc (h.keep i cs t h1 h2 h3 h4) o, h.b.alloc hb o⟩
theorem Kp.drewN {base : Nat} {a b : World} (h : Kp base a b) (n : Nat) : Kp base a (b.drewN n) := ⟨h.keep, bdrewN h.b n⟩
theorem Kp.drew {base : Nat} {a b : World} (h : Kp base a b) : Kp base a b.drew := ⟨h.keep, h.b.drew⟩
theorem Kp.set {base : Nat} {a b : World} (h : Kp base a b) {g : Nat} {cs0 : Array Value} (hg : b.heap[g]? = some (.cells cs0 66 (0, 0))) (hb : base ≤ g) (i : Nat) (u : Value) : Kp base a (b.setCell ⟨g, i, none⟩ u) :=
  ⟨fun k cs t h1 h2 h3 h4 => by
    have h5 := h.keep k cs t h1 h2 h3 h4
    have hne : k ≠ g := fun e => by
      subst e
      rw [hg] at h5
      simp only [Option.some.injEq, Obj.cells.injEq] at h5
      exact h1 h5.2.1.symm
    exact blk_far h5 hne u, h.b.setCell (p := ⟨g, i, none⟩) hb u⟩
theorem Kp.grown {base : Nat} {a b c : World} (h : Kp base a b) {e size n : Nat} {v : Value} {xs : List Value} (ho : b.ownsRow base e size v n xs) (he : e = 5 ∨ e = 3) (hg : b.grownBy c v.ownBlock) (hb : base ≤ b.heap.size) : Kp base a c :=
  ⟨fun k cs t h1 h2 h3 h4 => by
    have h5 := h.keep k cs t h1 h2 h3 h4
    refine (hg.block k (blk_lt h5) (fun e2 => ?_)).trans h5
    rcases ho.2 with ⟨rfl, _⟩ | ⟨g, cap, cur, rfl, _, hh, _⟩
    · cases e2
    · have e3 : some k = some g := e2
      obtain rfl := Option.some.inj e3
      rw [hh] at h5
      simp only [Option.some.injEq, Obj.cells.injEq] at h5
      rcases he with rfl | rfl
      · exact h2 h5.2.1.symm
      · exact h3 h5.2.1.symm, h.b.grown hg hb (fun k hk => (ho.lt k hk).1)⟩
theorem grown_blk {b c : World} {base e size n g t : Nat} {v : Value} {xs : List Value} {cs : Array Value} (ho : b.ownsRow base e size v n xs) (hg : b.grownBy c v.ownBlock) (hb : b.heap[g]? = some (.cells cs t (0, 0))) (hne : e ≠ t) : c.heap[g]? = some (.cells cs t (0, 0)) := by
  refine (hg.block g (blk_lt hb) (fun e2 => ?_)).trans hb
  rcases ho.2 with ⟨rfl, _⟩ | ⟨g', cap, cur, rfl, _, hh, _⟩
  · cases e2
  · have e3 : some g = some g' := e2
    obtain rfl := Option.some.inj e3
    rw [hh] at hb
    simp only [Option.some.injEq, Obj.cells.injEq] at hb
    exact hne hb.2.1
theorem own_off {w : World} {base e size n g t : Nat} {v : Value} {xs : List Value} {cs : Array Value} (h : w.ownsRow base e size v n xs) (hb : w.heap[g]? = some (.cells cs t (0, 0))) (hne : e ≠ t) (i : Nat) : v.ownBlock ≠ some (⟨g, i, none⟩ : Addr).block := fun e2 => by
  rcases h.2 with ⟨rfl, _⟩ | ⟨g', cap, cur, rfl, _, hh, _⟩
  · cases e2
  · have e3 : some g' = some g := e2
    obtain rfl := Option.some.inj e3
    rw [hh] at hb
    simp only [Option.some.injEq, Obj.cells.injEq] at hb
    exact hne hb.2.1
set_option maxRecDepth 100000 in
set_option maxHeartbeats 8000000 in
theorem item25 (base g B : Nat) (at_ : Int) (w : World) (h : WS base w g B at_) (hB : B ≤ 90000) : Calls Tryz.prog 25 #[.pointer (some ⟨g, 0, none⟩)] w fun r w' => r = .returned (.tuple #[]) ∧ WS base w' g (B + 1) at_ ∧ Kp base w w' := by
  obtain ⟨⟨vo, vp, no, np, xo, xp, hg, ho, hp, hz, _, hb⟩, hbg⟩ := h
  obtain ⟨Ap, cp, rfl⟩ := own_slice hp
  obtain ⟨Ao, co, rfl⟩ := own_slice ho
  have q0 := blk_cell hg 0
  have q1 := blk_cell hg 1
  simp at q0 q1
  have hszb : base ≤ w.heap.size := by have := blk_lt hg; omega
  by_cases hn : 0 < np
  · have d1 : decide ((0 : Int) < np) = true := decide_eq_true (by omega)
    have HO := Lib.hid (ho.alloc (.cells #[.int .u8 32] 5))
    have HP := Lib.hid hp
    have HG := Lib.hid hg
    clear ho hp
    go_enter Tryz.func25, Tryz.ntmps25
    go_wp2_with (at_builtin; refine app el64 rfl _ _ rfl base rfl HO.out ⟨_, 0, none⟩ 1 1 [.int .u8 32] rfl rfl (World.news_of_block (blk_new _ _)) (fun u hu => by simp at hu; subst hu; rfl) (by omega) (by simp; omega) ?_; intro v' w5 h7 h8; obtain ⟨g', cap, rfl, hg1, hg2⟩ := own_form h7; have hg5 := grown_blk HO.out h8 (blk_alloc HG.out (.cells #[.int .u8 32] 5)) (by decide); have f0 := blk_frozen hg5 0; have z0 := blk_cell hg5 0; simp at z0)
    go_end0
    have hk5 := ((Kp.refl base w).alloc hszb (.cells #[.int .u8 32] 5)).grown HO.out (.inl rfl) h8 (by simp; omega)
    have hp5 := (HP.out.alloc (.cells #[.int .u8 32] 5)).kept h8 (own_dT (HP.out.alloc (.cells #[.int .u8 32] 5)) HO.out (by decide))
    exact ⟨rfl, ⟨⟨_, _, no + 1, np, _, xp, blk_put hg5 0 _ rfl, own_u8 (own_set h7 (own_off h7 hg5 (by decide) 0) _), own_set hp5 (own_off hp5 hg5 (by decide) 0) _, hz, by omega, by omega⟩, hbg⟩, hk5.set hg5 hbg 0 _⟩
  · have d1 : decide ((0 : Int) < np) = false := decide_eq_false (by omega)
    go_enter Tryz.func25, Tryz.ntmps25
    go_wp2_with fail
    go_end0
    exact ⟨rfl, ⟨⟨_, _, no, np, xo, xp, hg, ho, hp, hz, by omega, by omega⟩, hbg⟩, Kp.refl _ _⟩
set_option maxRecDepth 100000 in
set_option maxHeartbeats 8000000 in
theorem line37 (base g B : Nat) (at_ : Int) (w : World) (h : WS base w g B at_) (hB : B ≤ 90000) : Calls Tryz.prog 37 #[.pointer (some ⟨g, 0, none⟩)] w fun r w' => r = .returned (.tuple #[]) ∧ WS base w' g (B + 1) at_ ∧ Kp base w w' := by
  obtain ⟨⟨vo, vp, no, np, xo, xp, hg, ho, hp, hz, _, hb⟩, hbg⟩ := h
  obtain ⟨Ap, cp, rfl⟩ := own_slice hp
  obtain ⟨Ao, co, rfl⟩ := own_slice ho
  have q0 := blk_cell hg 0
  have q1 := blk_cell hg 1
  simp at q0 q1
  have hszb : base ≤ w.heap.size := by have := blk_lt hg; omega
  by_cases hn : np = 0
  · have d1 : ((np : Int) == 0) = true := by rw [beq_iff_eq]; omega
    have HO := Lib.hid (ho.alloc (.cells #[.int .u8 10] 5))
    have HP := Lib.hid hp
    have HG := Lib.hid hg
    clear ho hp
    go_enter Tryz.func37, Tryz.ntmps37
    go_wp2_with (at_builtin; refine app el64 rfl _ _ rfl base rfl HO.out ⟨_, 0, none⟩ 1 1 [.int .u8 10] rfl rfl (World.news_of_block (blk_new _ _)) (fun u hu => by simp at hu; subst hu; rfl) (by omega) (by simp; omega) ?_; intro v' w5 h7 h8; obtain ⟨g', cap, rfl, hg1, hg2⟩ := own_form h7; have hg5 := grown_blk HO.out h8 (blk_alloc HG.out (.cells #[.int .u8 10] 5)) (by decide); have f0 := blk_frozen hg5 0; have z0 := blk_cell hg5 0; simp at z0)
    go_end0
    have hk5 := ((Kp.refl base w).alloc hszb (.cells #[.int .u8 10] 5)).grown HO.out (.inl rfl) h8 (by simp; omega)
    have hp5 := (HP.out.alloc (.cells #[.int .u8 10] 5)).kept h8 (own_dT (HP.out.alloc (.cells #[.int .u8 10] 5)) HO.out (by decide))
    exact ⟨rfl, ⟨⟨_, _, no + 1, np, _, xp, blk_put hg5 0 _ rfl, own_u8 (own_set h7 (own_off h7 hg5 (by decide) 0) _), own_set hp5 (own_off hp5 hg5 (by decide) 0) _, hz, by omega, by omega⟩, hbg⟩, hk5.set hg5 hbg 0 _⟩
  · have d1 : ((np : Int) == 0) = false := by rw [beq_eq_false_iff_ne]; omega
    go_enter Tryz.func37, Tryz.ntmps37
    go_wp2_with fail
    go_end0
    exact ⟨rfl, ⟨⟨_, _, no, np, xo, xp, hg, ho, hp, hz, by omega, by omega⟩, hbg⟩, Kp.refl _ _⟩
theorem own_shrink {w : World} {base e g c m : Nat} {xs : List Value} (h : w.ownsRow base e 1 (.slice (some ⟨g, 0, none⟩) (m + 1) c) (m + 1) xs) : w.ownsRow base e 1 (.slice (some ⟨g, 0, none⟩) m c) m (xs.take m) := by
  have hl := h.1
  rcases h.2 with ⟨h0, _⟩ | ⟨g', cap, cur, h0, hb, hh, h1, h2, h3, h4⟩
  · simp at h0
  · simp only [Value.slice.injEq, Option.some.injEq, Addr.mk.injEq, and_true, true_and] at h0
    obtain ⟨rfl, rfl⟩ := h0
    refine ⟨by rw [List.length_take, hl]; omega, .inr ⟨g, c, cur, rfl, hb, hh, by omega, h2, h3, ?_⟩⟩
    rw [← h4, List.take_take]
    congr 1
    omega
/-- The writer with np open ends. -/
def WSn (base : Nat) (w : World) (g : Nat) (B : Nat) (at_ : Int) (np : Nat) : Prop :=
  ∃ (vo vp : Value) (no : Nat) (xo : List Int) (xp : List Value), w.heap[g]? = some (.cells #[vo, vp, .int .i64 at_] 66 (0, 0)) ∧ w.ownsRow base 5 1 vo no (xo.map (Value.int .u8)) ∧ w.ownsRow base 3 1 vp np xp ∧ (∀ k, k < np → ∃ z : Int, xp[k]? = some (.int .i64 z)) ∧ no + 2 * np ≤ B
theorem WSn.up {base g B np : Nat} {at_ : Int} {w : World} (h : WSn base w g B at_ np) (hg : base ≤ g) : WS base w g B at_ := by
  obtain ⟨vo, vp, no, xo, xp, h1, h2, h3, h4, h5⟩ := h
  exact ⟨⟨vo, vp, no, np, xo, xp, h1, h2, h3, h4, by omega, h5⟩, hg⟩
theorem WS.dn {base g B : Nat} {at_ : Int} {w : World} (h : WS base w g B at_) : ∃ np, WSn base w g B at_ np := by
  obtain ⟨⟨vo, vp, no, np, xo, xp, h1, h2, h3, h4, _, h5⟩, _⟩ := h
  exact ⟨np, vo, vp, no, xo, xp, h1, h2, h3, h4, h5⟩
/-- line, with the open ends told. -/
theorem line37n (base g B np : Nat) (at_ : Int) (w : World) (h : WSn base w g B at_ np) (hbg : base ≤ g) (hB : B ≤ 90000) : Calls Tryz.prog 37 #[.pointer (some ⟨g, 0, none⟩)] w fun r w' => r = .returned (.tuple #[]) ∧ WSn base w' g (B + 1) at_ np ∧ Kp base w w' := by
  obtain ⟨vo, vp, no, xo, xp, hg, ho, hp, hz, hb⟩ := h
  obtain ⟨Ap, cp, rfl⟩ := own_slice hp
  obtain ⟨Ao, co, rfl⟩ := own_slice ho
  have q0 := blk_cell hg 0
  have q1 := blk_cell hg 1
  simp at q0 q1
  have hszb : base ≤ w.heap.size := by have := blk_lt hg; omega
  by_cases hn : np = 0
  · have d1 : ((np : Int) == 0) = true := by rw [beq_iff_eq]; omega
    have HO := Lib.hid (ho.alloc (.cells #[.int .u8 10] 5))
    have HP := Lib.hid hp
    have HG := Lib.hid hg
    clear ho hp
    go_enter Tryz.func37, Tryz.ntmps37
    go_wp2_with (at_builtin; refine app el64 rfl _ _ rfl base rfl HO.out ⟨_, 0, none⟩ 1 1 [.int .u8 10] rfl rfl (World.news_of_block (blk_new _ _)) (fun u hu => by simp at hu; subst hu; rfl) (by omega) (by simp; omega) ?_; intro v' w5 h7 h8; obtain ⟨g', cap, rfl, hg1, hg2⟩ := own_form h7; have hg5 := grown_blk HO.out h8 (blk_alloc HG.out (.cells #[.int .u8 10] 5)) (by decide); have f0 := blk_frozen hg5 0; have z0 := blk_cell hg5 0; simp at z0)
    go_end0
    have hk5 := ((Kp.refl base w).alloc hszb (.cells #[.int .u8 10] 5)).grown HO.out (.inl rfl) h8 (by simp; omega)
    have hp5 := (HP.out.alloc (.cells #[.int .u8 10] 5)).kept h8 (own_dT (HP.out.alloc (.cells #[.int .u8 10] 5)) HO.out (by decide))
    exact ⟨rfl, ⟨_, _, no + 1, _, xp, blk_put hg5 0 _ rfl, own_u8 (own_set h7 (own_off h7 hg5 (by decide) 0) _), own_set hp5 (own_off hp5 hg5 (by decide) 0) _, hz, by omega⟩, hk5.set hg5 hbg 0 _⟩
  · have d1 : ((np : Int) == 0) = false := by rw [beq_eq_false_iff_ne]; omega
    go_enter Tryz.func37, Tryz.ntmps37
    go_wp2_with fail
    go_end0
    exact ⟨rfl, ⟨_, _, no, xo, xp, hg, ho, hp, hz, by omega⟩, Kp.refl _ _⟩
set_option maxRecDepth 100000 in
set_option maxHeartbeats 16000000 in
theorem close38 (base g B : Nat) (at_ : Int) (w : World) (h : WS base w g B at_) (hB : B ≤ 90000) : Calls Tryz.prog 38 #[.pointer (some ⟨g, 0, none⟩)] w fun r w' => r = .returned (.tuple #[]) ∧ WS base w' g B at_ ∧ Kp base w w' := by
  obtain ⟨np, hn⟩ := h.dn
  have hbg := h.g
  clear h
  go_enter Tryz.func38, Tryz.ntmps38
  go_wp2_with fail
  go_loopg [26] np (fun q v w' => Aside (WSn base w' g B at_ q) ∧ Aside (Kp base w w'))
  case atStart => exact ⟨⟨hn⟩, ⟨Kp.refl _ _⟩⟩
  case round =>
    clear hn
    obtain ⟨HN, HKp⟩ := hrel
    obtain ⟨vo, vp, no, xo, xp, hg, ho, hp, hz, hb⟩ := HN.out
    obtain ⟨Ao, co, rfl⟩ := own_slice ho
    by_cases h0 : gk = 0
    · subst h0
      obtain ⟨Ap, cp, rfl⟩ := own_slice hp
      have q0 := blk_cell hg 0
      have q1 := blk_cell hg 1
      have q2 := blk_cell hg 2
      simp at q0 q1 q2
      have RN := Lib.hid (HN.out)
      clear ho hp hz
      go_wp2_with fail
      go_quiet (fail)
      go_wp2_with fail
      go_end0
      exact ⟨rfl, WSn.up (by obtain ⟨a, b, c, d, e, f1, f2, f3, f4, f5⟩ := RN.out; exact ⟨a, b, c, d, e, f1, f2, f3, f4, f5⟩) hbg, HKp.out.drewN _⟩
    · obtain ⟨m, hm⟩ : ∃ m, gk = m + 1 := ⟨gk - 1, by omega⟩
      subst hm
      obtain ⟨gp, cp, rfl, hgp1, hgp2⟩ := own_form hp
      obtain ⟨z, hzm⟩ := hz m (by omega)
      have q0 := blk_cell hg 0
      have q1 := blk_cell hg 1
      have q2 := blk_cell hg 2
      simp at q0 q1 q2
      have q3 := (hp.cellAt m (by omega)).trans hzm
      have m0 : (0 : Int) ≤ m := by omega
      have HO := Lib.hid ho
      have HP := Lib.hid hp
      have HG := Lib.hid hg
      have HZ := Lib.hid hz
      have hszb := Lib.hid (show base ≤ wr.heap.size by have := blk_lt hg; omega)
      have hmc : Hid (m + 1 ≤ cp) := Lib.hid (by
        rcases hp.2 with ⟨h0, _⟩ | ⟨g', cap, cur, h0, _, _, h1, _⟩
        · simp at h0
        · simp only [Value.slice.injEq, Option.some.injEq, Addr.mk.injEq, and_true, true_and] at h0
          obtain ⟨_, rfl⟩ := h0
          exact h1)
      clear ho hp hg hz hzm
      cases d2 : (z == at_) with
      | false =>
        go_wp2_with fail
        go_quiet (fail)
        go_wp2_with fail
        go_end0
        exact ⟨rfl, WSn.up (by obtain ⟨a, b, c, d, e, f1, f2, f3, f4, f5⟩ := HN.out; exact ⟨a, b, c, d, e, f1, f2, f3, f4, f5⟩) hbg, HKp.out.drewN _⟩
      | true =>
        go_wp2_with fail
        go_quiet (fail)
        have HKq := Lib.hid (HKp.out.drewN nq)
        have HOq : Hid ((wr.drewN nq).ownsRow base 5 1 (.slice Ao no co) no (xo.map (Value.int .u8))) := Lib.hid HO.out
        have HPq : Hid ((wr.drewN nq).ownsRow base 3 1 (.slice (some ⟨gp, 0, none⟩) (m + 1) cp) (m + 1) xp) := Lib.hid HP.out
        have HGq : Hid ((wr.drewN nq).heap[g]? = some (.cells #[.slice Ao no co, .slice (some ⟨gp, 0, none⟩) (m + 1) cp, .int .i64 at_] 66 (0, 0))) := Lib.hid HG.out
        have hszq : Hid (base ≤ (wr.drewN nq).heap.size) := Lib.hid hszb.out
        clear q0 q1 q2 q3 HO HP HG hszb HKp HN
        generalize wr.drewN nq = wq at *
        have q0' := blk_cell HGq.out 0
        simp at q0'
        have HOA := Lib.hid (HOq.out.alloc (.cells #[.int .u8 41] 5))
        go_wp2_with (at_builtin; refine app el64 rfl _ _ rfl base rfl HOA.out ⟨_, 0, none⟩ 1 1 [.int .u8 41] rfl rfl (World.news_of_block (blk_new _ _)) (fun u hu => by simp at hu; subst hu; rfl) (by omega) (by have := hszq.out; simp; omega) ?_; intro v' w5 h7 h8; obtain ⟨g', cap, rfl, hg1, hg2⟩ := own_form h7; have hg5 := grown_blk HOA.out h8 (blk_alloc HGq.out (.cells #[.int .u8 41] 5)) (by decide); have f0 := blk_frozen hg5 0; have z0 := blk_cell hg5 0; simp at z0)
        have hk5 := (HKq.out.alloc hszq.out (.cells #[.int .u8 41] 5)).grown HOA.out (.inl rfl) h8 (by have := hszq.out; simp; omega)
        have hp5 := (HPq.out.alloc (.cells #[.int .u8 41] 5)).kept h8 (own_dT (HPq.out.alloc (.cells #[.int .u8 41] 5)) HOA.out (by decide))
        have hg6 := blk_put hg5 0 (.slice (some ⟨g', 0, none⟩) (no + 1) cap) rfl
        have ho6 := own_set h7 (own_off h7 hg5 (by decide) 0) (.slice (some ⟨g', 0, none⟩) (no + 1) cap)
        have hp6 := own_set hp5 (own_off hp5 hg5 (by decide) 0) (.slice (some ⟨g', 0, none⟩) (no + 1) cap)
        have hk6 := hk5.set hg5 hbg 0 (.slice (some ⟨g', 0, none⟩) (no + 1) cap)
        clear f0 z0 hg5 hk5 hp5 h7 h8 q0' HGq HOA
        generalize w5.setCell ⟨g, 0, none⟩ (.slice (some ⟨g', 0, none⟩) (no + 1) cap) = w6 at *
        have HR := Lib.hid (And.intro hg6 (And.intro ho6 (And.intro hp6 hk6)))
        have hw1 : IntKind.i64.wrap ((m : Int) + 1 - 1) = m := by rw [show (m : Int) + 1 - 1 = m by omega]; exact IntWalk.i64_in _ (by omega)
        have hw2 : IntKind.i64.wrap (((m + 1 : Nat) : Int) - 1) = m := by rw [show ((m + 1 : Nat) : Int) - 1 = m by omega]; exact IntWalk.i64_in _ (by omega)
        have hw3 : IntKind.i64.wrap (m : Int) = m := IntWalk.i64_in _ (by omega)
        have hmc0 := hmc.out
        have hmc1 : (m : Int) ≤ cp := by omega
        refine T_start (fun w' : World => w'.cell? ⟨g, 1, none⟩ = some (.slice (some ⟨gp, 0, none⟩) (m + 1) cp)) 14 (n := 15) (by kernel_rfl) rfl rfl ?_
        have hS : (fun w' : World => w'.cell? ⟨g, 1, none⟩ = some (.slice (some ⟨gp, 0, none⟩) (m + 1) cp)) w6.drew := by have := blk_cell hg6 1; simpa using this
        clear hg6 ho6 hp6 hk6
        simp only [Array.replicate_succ, Array.replicate_zero, List.push_toArray, List.nil_append, List.cons_append]
        refine tk 0 36 (by kernel_rfl) hS (h := ?_)
        refine tk 1 37 (by kernel_rfl) hS (h := ?_)
        refine tk 2 38 (by kernel_rfl) hS (h := ?_)
        refine tk 3 39 (by kernel_rfl) hS (h := ?_)
        refine tk 4 40 (by kernel_rfl) hS (h := ?_)
        refine tk 5 41 (by kernel_rfl) hS (h := ?_)
        refine tk 6 42 (by kernel_rfl) hS (h := ?_)
        refine tk 7 43 (by kernel_rfl) hS (h := ?_)
        refine tk 8 44 (by kernel_rfl) hS (h := ?_)
        refine tk 9 45 (by kernel_rfl) hS (h := ?_)
        refine tk 10 46 (by kernel_rfl) hS (h := ?_)
        refine tk 11 47 (by kernel_rfl) hS (h := ?_)
        refine tk 12 48 (by kernel_rfl) hS (h := ?_)
        refine tk 13 49 (by kernel_rfl) hS (h := ?_)
        refine one 14 (h := ?_)
        intro K hK
        have c1 : w6.drew.cell? ⟨g, 1, none⟩ = some (.slice (some ⟨gp, 0, none⟩) (m + 1) cp) := hS
        have c2 : w6.drew.frozen? ⟨g, 1, none⟩ = false := blk_frozen HR.out.1 1
        go_simp
        refine hK _ _ (fun h => absurd rfl h) (T_done ?_)
        clear hK K c1 c2
        obtain ⟨hg6, ho6, hp6, hk6⟩ := HR.out
        have hg7 := blk_put hg6 1 (.slice (some ⟨gp, 0, none⟩) m cp) rfl
        have ho7 := own_set ho6 (own_off ho6 hg6 (by decide) 1) (.slice (some ⟨gp, 0, none⟩) m cp)
        have hp7 := own_set (own_shrink hp6) (own_off (own_shrink hp6) hg6 (by decide) 1) (.slice (some ⟨gp, 0, none⟩) m cp)
        have hk7 := (hk6.set hg6 hbg 1 (.slice (some ⟨gp, 0, none⟩) m cp)).drew
        have hWn : WSn base (w6.setCell ⟨g, 1, none⟩ (.slice (some ⟨gp, 0, none⟩) m cp)).drew g (B - 1) at_ m := ⟨_, _, no + 1, _, xp.take m, hg7, own_u8 ho7, hp7, fun k hk => by obtain ⟨z, h1⟩ := HZ.out k (by omega); exact ⟨z, by rw [List.getElem?_take_of_lt hk]; exact h1⟩, by omega⟩
        have CV := Lib.hid (line37n base g (B - 1) m at_ _ hWn hbg (by omega))
        have HK7 := Lib.hid hk7
        clear hg6 ho6 hp6 hk6 hg7 ho7 hp7 hk7 hWn HR
        go_wp2_with (go_at_call 37; refine CV.out.mono ?_; rintro r w8 ⟨rfl, hw8, hk8⟩)
        go_roundg m
        case measure => omega
        case rel => exact ⟨⟨by rw [show B - 1 + 1 = B by omega] at hw8; exact hw8⟩, ⟨HK7.out.trans hk8⟩⟩
end Go.Proofs.YthjcmodhleoocaaGreatDoor.Z
/- ZWtok -/
namespace Go.Proofs.YthjcmodhleoocaaGreatDoor.Z
open Go Go.RowKit Go.Lib
set_option linter.unusedVariables false
set_option linter.unusedSimpArgs false
/-- The greater one. -/
def mx (a t : Int) : Int := if a < t then t else a
set_option maxRecDepth 100000 in
set_option maxHeartbeats 16000000 in
theorem tokens24 (base g B : Nat) (at_ tt : Int) (w : World) (h : WS base w g B at_) (h0 : 0 ≤ at_) (hto : tt ≤ 5000) (hat : at_ ≤ 5000) (hB : B + 3 * (tt - at_).toNat ≤ 80000) :
    Calls Tryz.prog 24 #[.pointer (some ⟨g, 0, none⟩), .int .i64 tt] w fun r w' => r = .returned (.tuple #[]) ∧ WS base w' g (B + 3 * (tt - at_).toNat) (mx at_ tt) ∧ Kp base w w' := by
  have hbg := h.g
  go_enter Tryz.func24, Tryz.ntmps24
  go_wp2_with fail
  go_loopg [9] (tt - at_).toNat (fun q v w' => ∃ (B1 : Nat) (a : Int), q = (tt - a).toNat ∧ 0 ≤ a ∧ a ≤ 5000 ∧ B1 + 3 * q = B + 3 * (tt - at_).toNat ∧ mx a tt = (mx at_ tt) ∧ Aside (WS base w' g B1 a) ∧ Aside (Kp base w w'))
  case atStart => exact ⟨B, at_, rfl, h0, hat, rfl, rfl, ⟨h⟩, ⟨Kp.refl _ _⟩⟩
  case round =>
    clear h
    obtain ⟨B1, a, hq, ha0, ha1, hBq, hend, HW, HK⟩ := hrel
    obtain ⟨⟨vo, vp, no, np, xo, xp, hg, ho, hp, hz, hnp, hb⟩, _⟩ := HW.out
    obtain ⟨Ao, co, rfl⟩ := own_slice ho
    obtain ⟨Ap, cp, rfl⟩ := own_slice hp
    have q2 := blk_cell hg 2
    simp at q2
    clear ho hp hz hg
    by_cases hlt : a < tt
    · have d1 : decide (a < tt) = true := decide_eq_true hlt
      have C1 := Lib.hid (item25 base g B1 a wr HW.out (by omega))
      go_wp2_with fail
      refine C1.out.mono ?_
      rintro r w1 ⟨rfl, hw1, hk1⟩
      obtain ⟨⟨vo, vp, no, np, xo, xp, hg, ho, hp, hz, hnp, hb⟩, _⟩ := hw1
      obtain ⟨Ao, co, rfl⟩ := own_slice ho
      obtain ⟨Ap, cp, rfl⟩ := own_slice hp
      have q0 := blk_cell hg 0
      simp at q0
      have hszb : base ≤ w1.heap.size := by have := blk_lt hg; omega
      have HSZ := Lib.hid hszb
      have HO := Lib.hid (ho.alloc (.cells #[.int .u8 42] 5))
      have HP := Lib.hid hp
      have HG := Lib.hid hg
      have HZ := Lib.hid hz
      have HK1 := Lib.hid (HK.out.trans hk1)
      clear ho hp hg hz q2 C1 hk1 hszb
      go_wp2_with (at_builtin; refine app el64 rfl _ _ rfl base rfl HO.out ⟨_, 0, none⟩ 1 1 [.int .u8 42] rfl rfl (World.news_of_block (blk_new _ _)) (fun u hu => by simp at hu; subst hu; rfl) (by omega) (by have := HSZ.out; simp; omega) ?_; intro v' w5 h7 h8; obtain ⟨g', cap, rfl, hg1, hg2⟩ := own_form h7; have hg5 := grown_blk HO.out h8 (blk_alloc HG.out (.cells #[.int .u8 42] 5)) (by decide); have f0 := blk_frozen hg5 0; have z0 := blk_cell hg5 0; simp at z0)
      have hk5 := (HK1.out.alloc HSZ.out (.cells #[.int .u8 42] 5)).grown HO.out (.inl rfl) h8 (by have := HSZ.out; simp; omega)
      have hp5 := (HP.out.alloc (.cells #[.int .u8 42] 5)).kept h8 (own_dT (HP.out.alloc (.cells #[.int .u8 42] 5)) HO.out (by decide))
      have hW6 : WS base (w5.setCell ⟨g, 0, none⟩ (.slice (some ⟨g', 0, none⟩) (no + 1) cap)) g (B1 + 2) a := ⟨⟨_, _, no + 1, np, _, xp, blk_put hg5 0 _ rfl, own_u8 (own_set h7 (own_off h7 hg5 (by decide) 0) _), own_set hp5 (own_off hp5 hg5 (by decide) 0) _, HZ.out, by omega, by omega⟩, hbg⟩
      have hk6 := Lib.hid (hk5.set hg5 hbg 0 (.slice (some ⟨g', 0, none⟩) (no + 1) cap))
      have C2 := Lib.hid (line37 base g (B1 + 2) a _ hW6 (by omega))
      clear hk5 hp5 hW6 f0 z0 hg5 h7 h8 q0 HO HP HG HZ HK1
      generalize w5.setCell ⟨g, 0, none⟩ (.slice (some ⟨g', 0, none⟩) (no + 1) cap) = w6 at *
      refine C2.out.mono ?_
      rintro r w7 ⟨rfl, hw7, hk7⟩
      obtain ⟨⟨vo, vp, no, np, xo, xp, hg, ho, hp, hz, hnp, hb⟩, _⟩ := hw7
      have hk8 := Lib.hid ((hk6.out.trans hk7).set hg hbg 2 (.int .i64 (a + 1)))
      have hW8 : WS base (w7.setCell ⟨g, 2, none⟩ (.int .i64 (a + 1))) g (B1 + 3) (a + 1) := ⟨⟨_, _, no, np, xo, xp, blk_put hg 2 _ rfl, own_set ho (own_off ho hg (by decide) 2) _, own_set hp (own_off hp hg (by decide) 2) _, hz, by omega, by omega⟩, hbg⟩
      have C3 := Lib.hid (close38 base g (B1 + 3) (a + 1) _ hW8 (by omega))
      have q2 := blk_cell hg 2
      have f2 := blk_frozen hg 2
      simp at q2
      clear hg ho hp hz hW8 C2 hk6 hk7
      go_wp2_with fail
      refine C3.out.mono ?_
      rintro r w9 ⟨rfl, hw9, hk9⟩
      have hq1 : (tt - (a + 1)).toNat + 1 = (tt - a).toNat := by omega
      go_wp2_with fail
      go_roundg ((tt - (a + 1)).toNat)
      case measure => omega
      case rel => exact ⟨B1 + 3, a + 1, rfl, by omega, by omega, by omega, by rw [← hend]; have e1 : mx a tt = tt := if_pos hlt; rw [e1]; unfold mx; split <;> omega, ⟨hw9⟩, ⟨hk8.out.trans hk9⟩⟩
    · have d1 : decide (a < tt) = false := decide_eq_false hlt
      go_wp2_with fail
      go_end0
      have e1 : B1 = B + 3 * (tt - at_).toNat := by omega
      have e2 : a = mx at_ tt := by rw [← hend]; unfold mx; split <;> omega
      exact ⟨rfl, by rw [← e1, ← e2]; exact HW.out, HK.out⟩
end Go.Proofs.YthjcmodhleoocaaGreatDoor.Z
/- ZBfmt -/
namespace Go.Proofs.YthjcmodhleoocaaGreatDoor.Z
open Go Go.RowKit Go.Lib
set_option linter.unusedVariables false
set_option linter.unusedSimpArgs false
theorem WS.mono {base g B B' : Nat} {a : Int} {w : World} (h : WS base w g B a) (hb : B ≤ B') : WS base w g B' a := by
  obtain ⟨⟨vo, vp, no, np, xo, xp, h1, h2, h3, h4, h5, h6⟩, h7⟩ := h
  exact ⟨⟨vo, vp, no, np, xo, xp, h1, h2, h3, h4, h5, by omega⟩, h7⟩
theorem strCells_nums (s : ByteArray) : Lib.strCells s = (s.data.toList.map fun b => (b.toNat : Int)).map (Value.int .u8) := by
  unfold Lib.strCells
  rw [List.map_map]
  rfl
theorem wp_appS {w : World} {o : Oper} {a : Act} {K : Act → World → Prop} {Q : Exit → Act → World → Prop} (sl x : Operand)
    (ho : o.op = .call { callee := .builtin .append, args := #[sl, x], argTypes := #[64, 9] }) (base : Nat) {v : Value} {n : Nat} {xs : List Value} (hs : a.eval sl = v) (hown : w.ownsRow base 5 1 v n xs)
    (s : ByteArray) (hx : a.eval x = .string s) (hn : n + s.size ≤ 200000) (hbase : base ≤ w.heap.size)
    (h : ∀ v' w', w'.ownsRow base 5 1 v' (n + s.size) (xs ++ Lib.strCells s) → w.grownBy w' v.ownBlock → K (a.put o.dst v') w') : Oper.wp Tryz.prog o a w K Q := by
  obtain ⟨i, h1, h2, h3, h4⟩ := info_parts (P := Tryz.prog) (e := 5) (z := .int .u8 0) (size := 1) (bytes := 1) (by kernel_rfl)
  obtain ⟨v', w', hr, h5, h6, _⟩ := Lib.run_append_own_string (P := Tryz.prog) w base 64 9 o.type 5 i Tryz.underlying64 Tryz.underlying9 h1 h2 h3 h4 v n xs hown s (by unfold maxLen; omega) (by omega) hbase
  unfold Oper.wp execOp
  simp only [ho, resolve, invoke, builtin, Sem.run_bind, Sem.run_pure, Result.andThen_ok, List.map_toArray, List.map_cons, List.map_nil, hs, hx, hr]
  exact h v' w' h5 h6
def RetS (r : Ending) : Prop := ∃ s, r = .returned (.tuple #[.string s, .int .i64 0])
set_option maxRecDepth 100000 in
set_option maxHeartbeats 32000000 in
theorem bformat9 (w : World) (v : Value) (N : List Nd) (Z : List Tx) (D : Nat → Int) (m : Nat) (hN : Nds w v N) (hok : NdOk N Z D N.length) (htx : TxOk Z m) (hlen : N.length ≤ 40) (hm : m ≤ 1000) :
    Calls Tryz.prog 9 #[v, .int .i64 m] w fun r w' => RetS r ∧ Below w.heap.size w w' := by
  have CK := Lib.hid (bcheck23 w v N Z D m hN hok htx (by omega))
  obtain ⟨A, c, rfl, hnc, hcm, hR⟩ := hN
  obtain ⟨n, hnl⟩ : ∃ n, n = N.length := ⟨_, rfl⟩
  rw [← hnl] at hlen hok CK ⊢
  have KN := Lib.hid hR
  have NN := Lib.hid hnl
  have HOK := Lib.hid hok
  have HTX := Lib.hid htx
  clear hR hnc hcm hnl hok htx
  have d1 : decide ((m : Int) < 0) = false := decide_eq_false (by omega)
  have d2 : decide ((4096 : Int) < m) = false := decide_eq_false (by omega)
  have d3 : decide ((2048 : Int) < n) = false := decide_eq_false (by omega)
  have d4 : ¬ 4096 < m := by omega
  have d5 : ¬ 2048 < n := by omega
  go_enter Tryz.func9, Tryz.ntmps9
  go_wp2_with (go_at_call 23; refine CK.out.mono ?_; rintro r w1 ⟨rfl, HB1⟩)
  have hg0 := blk_new w1 (.cells #[.slice none 0 0, .slice none 0 0, .int .i64 0] 66)
  have hk0 := (Kp.refl w.heap.size w1).alloc HB1.size (.cells #[.slice none 0 0, .slice none 0 0, .int .i64 0] 66)
  have hb0 := HB1.alloc HB1.size (.cells #[.slice none 0 0, .slice none 0 0, .int .i64 0] 66)
  have hgb := HB1.size
  obtain ⟨g, hg⟩ : ∃ g, g = w1.heap.size := ⟨_, rfl⟩
  rw [← hg] at hg0 hgb ⊢
  clear hg
  have hW0 : WS w.heap.size (w1.alloc (.cells #[.slice none 0 0, .slice none 0 0, .int .i64 0] 66)) g 0 0 := ⟨⟨_, _, 0, 0, [], [], hg0, World.ownsRow_nil _ _ _ _, World.ownsRow_nil _ _ _ _, fun k hk => by omega, by omega, by omega⟩, hgb⟩
  generalize w1.alloc (.cells #[.slice none 0 0, .slice none 0 0, .int .i64 0] 66) = w2 at *
  clear hg0 hk0
  go_loopg [30] n (fun q v w' => ∃ i : Nat, ∃ a : Nat, i + q = n ∧ v = .int .i64 i ∧ a ≤ m ∧ Aside (WS w.heap.size w' g (3 * a + 40 * i) a) ∧ Aside (Below w.heap.size w w'))
  case atStart => exact ⟨0, 0, by omega, rfl, by omega, ⟨hW0⟩, ⟨hb0⟩⟩
  case round =>
    clear hW0 hb0
    obtain ⟨i, a, hi, rfl, ham, HW, HB⟩ := hrel
    by_cases hlt : i < n
    · have hNi : N[i]? = some (N[i]'(by have := NN.out; omega)) := List.getElem?_eq_getElem (by have := NN.out; omega)
      obtain ⟨a1, r1, rfl, ⟨rfl, hs1, hs2, hs3, hs4⟩, hA⟩ := KN.out i _ hNi
      generalize N[i]'(by have := NN.out; omega) = y at *
      have hat := HOK.out i y hlt hNi
      obtain ⟨u, hu, hhld⟩ := List.any_eq_true.1 hat.win
      have hux := HTX.out u hu
      simp only [hldB, Bool.and_eq_true, decide_eq_true_eq] at hhld
      have hnm : y.nm.size ≤ 32 := by
        have h := hat.nm
        unfold nmB at h
        simp only [Bool.and_eq_true, decide_eq_true_eq] at h
        exact h.1.1.2
      obtain ⟨yb, hyb⟩ := Int.eq_ofNat_of_zero_le (show (0 : Int) ≤ y.b by omega)
      have hybm : yb ≤ m := by omega
      have HYB := Lib.hid hyb
      have hyb0 : (0 : Int) ≤ y.b := by omega
      have hyb1 : y.b ≤ 5000 := by omega
      have hyb2 : (3 * a + 40 * i) + 3 * (y.b - (a : Int)).toNat ≤ 80000 := by omega
      clear hyb
      have p0 : (0 : Int) ≤ i := by omega
      have p1 : decide ((i : Int) < n) = true := by simpa using hlt
      have hA1 := hA.below HB.out
      have e0 := hA1.c0
      have e1 := hA1.c1
      have e2 := hA1.c2
      have e3 := hA1.c3
      have HT := blk_new wr (.cells #[.string y.nm, .int .i64 y.b, .int .i64 y.e, .int .i64 y.p] 33)
      have HB2 := HB.out.alloc HB.out.size (.cells #[.string y.nm, .int .i64 y.b, .int .i64 y.e, .int .i64 y.p] 33)
      have hW2 : WS w.heap.size (wr.alloc (.cells #[.string y.nm, .int .i64 y.b, .int .i64 y.e, .int .i64 y.p] 33)) g (3 * a + 40 * i) a := by
        obtain ⟨⟨vo, vp, no, np, xo, xp, h1, h2, h3, h4, h5, h6⟩, h7⟩ := HW.out
        exact ⟨⟨vo, vp, no, np, xo, xp, blk_alloc h1 _, h2.alloc _, h3.alloc _, h4, h5, h6⟩, h7⟩
      clear hA hA1 hat hu hux hhld hNi
      go_wp2_with fail
      have C1 := tokens24 w.heap.size g (3 * a + 40 * i) a y.b _ hW2 (by omega) hyb1 (by omega) hyb2
      obtain ⟨tb, htb⟩ : ∃ tb, tb = wr.heap.size := ⟨_, rfl⟩
      rw [← htb] at HT ⊢
      clear e0 e1 e2 e3 htb HB hW2
      generalize wr.alloc (.cells #[.string y.nm, .int .i64 y.b, .int .i64 y.e, .int .i64 y.p] 33) = w3 at *
      refine C1.mono ?_
      rintro r w4 ⟨rfl, hw4, hk4⟩
      have HT4 := hk4.keep _ _ _ (by decide) (by decide) (by decide) HT
      have HB4 := HB2.trans hk4.b
      obtain ⟨a', ha', hw4'⟩ : ∃ a' : Nat, a' ≤ m ∧ WS w.heap.size w4 g (3 * a' + 40 * i) a' := by
        by_cases hab : (a : Int) < y.b
        · rw [show mx (a : Int) y.b = y.b from if_pos hab, HYB.out] at hw4
          exact ⟨yb, hybm, hw4.mono (by have := HYB.out; omega)⟩
        · rw [show mx (a : Int) y.b = a from if_neg hab] at hw4
          exact ⟨a, ham, hw4.mono (by omega)⟩
      clear C1 hw4 hk4 HT HB2
      have C2 := Lib.hid (item25 w.heap.size g (3 * a' + 40 * i) a' _ hw4' (by omega))
      go_wp2_with fail
      refine C2.out.mono ?_
      rintro r w5 ⟨rfl, hw5, hk5⟩
      have HT5 := hk5.keep _ _ _ (by decide) (by decide) (by decide) HT4
      have HB5 := HB4.trans hk5.b
      clear C2 hw4' hk5 HT4 HB4
      obtain ⟨⟨vo, vp, no, np, xo, xp, hg, ho, hp, hz, hnp, hb⟩, hbg⟩ := hw5
      obtain ⟨Ao, co, rfl⟩ := own_slice ho
      obtain ⟨Ap, cp, rfl⟩ := own_slice hp
      go_wp2_with fail
      have hszb : w.heap.size ≤ w5.heap.size := HB5.size
      refine T_start (fun w' : World => w'.cell? ⟨g, 0, none⟩ = some (.slice Ao no co) ∧ w'.cell? ⟨tb, 0, none⟩ = some (.string y.nm)) 8 (n := 9) (by kernel_rfl) rfl rfl ?_
      have hS : (fun w' : World => w'.cell? ⟨g, 0, none⟩ = some (.slice Ao no co) ∧ w'.cell? ⟨tb, 0, none⟩ = some (.string y.nm)) w5.drew := ⟨by have := blk_cell hg 0; simpa using this, by have := blk_cell HT5 0; simpa using this⟩
      have hgd : w5.drew.heap[g]? = some (.cells #[.slice Ao no co, .slice Ap np cp, .int .i64 a'] 66 (0, 0)) := hg
      have hod : w5.drew.ownsRow w.heap.size 5 1 (.slice Ao no co) no (xo.map (Value.int .u8)) := ho
      have hpd : w5.drew.ownsRow w.heap.size 3 1 (.slice Ap np cp) np xp := hp
      have hTd : w5.drew.heap[tb]? = some (.cells #[.string y.nm, .int .i64 y.b, .int .i64 y.e, .int .i64 y.p] 33 (0, 0)) := HT5
      have hBd := HB5.drew
      have hsd : w.heap.size ≤ w5.drew.heap.size := hszb
      clear hg ho hp HT5 HB5 hszb
      generalize w5.drew = wd at *
      simp only [Array.replicate_succ, Array.replicate_zero, List.push_toArray, List.nil_append, List.cons_append]
      refine tk 0 38 (by kernel_rfl) hS (h := ?_)
      refine tk 1 39 (by kernel_rfl) hS (h := ?_)
      refine tk 4 42 (by kernel_rfl) hS (h := ?_)
      refine tk 5 43 (by kernel_rfl) hS (h := ?_)
      refine one 2 (h := ?_)
      intro K hK
      go_simp
      have hga := blk_alloc hgd (.cells #[.int .u8 40] 5)
      have hoa := hod.alloc (.cells #[.int .u8 40] 5)
      have hpa := hpd.alloc (.cells #[.int .u8 40] 5)
      have hTa := blk_alloc hTd (.cells #[.int .u8 40] 5)
      have hBa := hBd.alloc hsd (.cells #[.int .u8 40] 5)
      have hsa : w.heap.size ≤ (wd.alloc (.cells #[.int .u8 40] 5)).heap.size := by simp; omega
      have hS2 : (fun w' : World => w'.cell? ⟨g, 0, none⟩ = some (.slice Ao no co) ∧ w'.cell? ⟨tb, 0, none⟩ = some (.string y.nm)) (wd.alloc (.cells #[.int .u8 40] 5)) := ⟨by have := blk_cell hga 0; simpa using this, by have := blk_cell hTa 0; simpa using this⟩
      refine hK _ _ (fun _ => hS2) ?_
      clear hK K
      refine one 3 (h := ?_)
      intro K hK
      refine wp_app el64 (.tmp 39) (.tmp 40) rfl w.heap.size (v := .slice Ao no co) (by simp [Act.eval]) hoa ⟨wd.heap.size, 0, none⟩ 1 1 [.int .u8 40] (by simp [Act.eval]) rfl (World.news_of_block (blk_new _ _)) (fun u hu => by simp at hu; subst hu; rfl) (by omega) hsa ?_
      intro v6 w6 h7 h8
      have hg6 := grown_blk hoa h8 hga (by decide)
      have hT6 := grown_blk hoa h8 hTa (by decide)
      have hp6 := hpa.kept h8 (own_dT hpa hoa (by decide))
      have hB6 := hBa.grown h8 hsa (fun k hk => (hoa.lt k hk).1)
      have hs6 : w.heap.size ≤ w6.heap.size := hB6.size
      obtain ⟨g6, cap6, rfl, _, _⟩ := own_form h7
      have h7' := own_u8 h7
      have hS3 : (fun w' : World => w'.cell? ⟨g, 0, none⟩ = some (.slice Ao no co) ∧ w'.cell? ⟨tb, 0, none⟩ = some (.string y.nm)) w6 := ⟨by have := blk_cell hg6 0; simpa using this, by have := blk_cell hT6 0; simpa using this⟩
      refine hK _ _ (fun _ => hS3) ?_
      clear hK K
      simp only [Act.put, List.setIfInBounds_toArray, List.set_cons_zero, List.set_cons_succ]
      refine one 6 (h := ?_)
      intro K hK
      refine wp_appS (.tmp 41) (.tmp 43) rfl w.heap.size (v := .slice (some ⟨g6, 0, none⟩) (no + 1) cap6) (by simp [Act.eval]) h7' y.nm (by simp [Act.eval]) (by omega) hs6 ?_
      intro v8 w8 h9 h10
      have hg8 := grown_blk h7' h10 hg6 (by decide)
      have hT8 := grown_blk h7' h10 hT6 (by decide)
      have hp8 := hp6.kept h10 (own_dT hp6 h7' (by decide))
      have hB8 := hB6.grown h10 hs6 (fun k hk => (h7'.lt k hk).1)
      rw [strCells_nums, ← List.map_append] at h9
      have hnz : no + 1 + y.nm.size = (no + y.nm.size) + 1 := by omega
      rw [hnz] at h9
      obtain ⟨g8, cap8, rfl, _, _⟩ := own_form h9
      have hS4 : (fun w' : World => w'.cell? ⟨g, 0, none⟩ = some (.slice Ao no co) ∧ w'.cell? ⟨tb, 0, none⟩ = some (.string y.nm)) w8 := ⟨by have := blk_cell hg8 0; simpa using this, by have := blk_cell hT8 0; simpa using this⟩
      refine hK _ _ (fun _ => hS4) ?_
      clear hK K
      simp only [Act.put, List.setIfInBounds_toArray, List.set_cons_zero, List.set_cons_succ]
      refine tk 7 45 (by kernel_rfl) hS4 (h := ?_)
      refine one 8 (h := ?_)
      intro K hK
      have u1 := hS4.1
      have u2 := blk_frozen hg8 0
      go_simp
      refine hK _ _ (fun h => absurd rfl h) (T_done ?_)
      clear hK K u1 u2
      have hg9 := blk_put hg8 0 (.slice (some ⟨g8, 0, none⟩) (no + y.nm.size + 1) cap8) rfl
      have ho9 := own_set h9 (own_off h9 hg8 (by decide) 0) (.slice (some ⟨g8, 0, none⟩) (no + y.nm.size + 1) cap8)
      have hp9 := own_set hp8 (own_off hp8 hg8 (by decide) 0) (.slice (some ⟨g8, 0, none⟩) (no + y.nm.size + 1) cap8)
      have hne : tb ≠ g := fun e => by
        rw [e, hg8] at hT8
        simp only [Option.some.injEq, Obj.cells.injEq] at hT8
        exact absurd hT8.2.1 (by decide)
      have hT9 := blk_far hT8 (p := ⟨g, 0, none⟩) hne (.slice (some ⟨g8, 0, none⟩) (no + y.nm.size + 1) cap8)
      have hB9 := hB8.setCell (p := ⟨g, 0, none⟩) hgb (.slice (some ⟨g8, 0, none⟩) (no + y.nm.size + 1) cap8)
      have HNE := Lib.hid hne
      clear hg8 h9 hp8 hT8 hB8 hg6 hT6 hp6 hB6 h7 h7' h8 h10 hga hoa hpa hTa hBa hgd hod hpd hTd hBd hS hS2 hS3 hS4 hne
      generalize w8.setCell ⟨g, 0, none⟩ (.slice (some ⟨g8, 0, none⟩) (no + y.nm.size + 1) cap8) = w9 at *
      have r1 := blk_cell hg9 1
      have t2 := blk_cell hT9 2
      simp at r1 t2
      have HSZ := Lib.hid hB9.size
      have HP := Lib.hid (hp9.alloc (.cells #[.int .i64 y.e] 3))
      have HO := Lib.hid ho9
      have HG := Lib.hid hg9
      have HBL := Lib.hid hB9
      have HZ := Lib.hid hz
      have hb1 : no + 2 * np ≤ 3 * a' + 40 * i + 1 := hb
      have HXO := hb1
      clear hp9 ho9 hg9 hT9 hB9 hz hsd hsa hs6
      go_wp2_with (at_builtin; refine app el27 rfl _ _ rfl w.heap.size rfl HP.out ⟨_, 0, none⟩ 1 1 [.int .i64 y.e] rfl rfl (World.news_of_block (blk_new _ _)) (fun u hu => by simp at hu; subst hu; rfl) (by omega) (by have := HSZ.out; simp; omega) ?_; intro v10 w10 h11 h12; obtain ⟨g10, cap10, rfl, _, _⟩ := own_form h11; have hg10 := grown_blk HP.out h12 (blk_alloc HG.out (.cells #[.int .i64 y.e] 3)) (by decide); have f0 := blk_frozen hg10 1; have z0 := blk_cell hg10 1; simp at z0)
      have ho10 := (HO.out.alloc (.cells #[.int .i64 y.e] 3)).kept h12 (own_dT (HO.out.alloc (.cells #[.int .i64 y.e] 3)) HP.out (by decide))
      have hB10 := (HBL.out.alloc HSZ.out (.cells #[.int .i64 y.e] 3)).grown h12 (by have := HSZ.out; simp; omega) (fun k hk => (HP.out.lt k hk).1)
      have hxl := HP.out.1
      have hW11 : WS w.heap.size (w10.setCell ⟨g, 1, none⟩ (.slice (some ⟨g10, 0, none⟩) (np + 1) cap10)) g (3 * a' + 40 * (i + 1)) a' := ⟨⟨_, _, no + y.nm.size + 1, np + 1, _, _, blk_put hg10 1 _ rfl, own_set ho10 (own_off ho10 hg10 (by decide) 1) _, own_set h11 (own_off h11 hg10 (by decide) 1) _, fun k hk => by
        by_cases e : k < np
        · obtain ⟨z, h1⟩ := HZ.out k e
          exact ⟨z, by rw [List.getElem?_append_left (by omega)]; exact h1⟩
        · exact ⟨y.e, by rw [List.getElem?_append_right (by omega), show k - xp.length = 0 by omega]; rfl⟩, by omega, by omega⟩, hgb⟩
      have hB11 := hB10.setCell (p := ⟨g, 1, none⟩) hgb (.slice (some ⟨g10, 0, none⟩) (np + 1) cap10)
      go_roundg (gk - 1)
      case measure => omega
      case rel => exact ⟨i + 1, a', by omega, rfl, ha', ⟨hW11⟩, ⟨hB11⟩⟩
    · have p1 : decide ((i : Int) < n) = false := by simpa using hlt
      go_wp2_with fail
      refine (tokens24 w.heap.size g (3 * a + 40 * i) a m wr HW.out (by omega) (by omega) (by omega) (by omega)).mono ?_
      rintro r w4 ⟨rfl, hw4, hk4⟩
      have HB4 := Lib.hid (HB.out.trans hk4.b)
      obtain ⟨⟨vo, vp, no, np, xo, xp, hg, ho, hp, hz, hnp, hb⟩, hbg⟩ := hw4
      have hcv : ∃ s, (convert 64 9 vo).run Tryz.prog w4 = .ok (.string s) w4 := by
        rcases ho.2 with ⟨rfl, _⟩ | ⟨g', cap, cur, rfl, _⟩
        · exact ⟨_, run_convert_bytes_nil (P := Tryz.prog) w4 64 5 Tryz.underlying64 Tryz.underlying5 0 0 9 Tryz.underlying9⟩
        · refine ⟨_, run_convert_bytes_arg (P := Tryz.prog) w4 64 5 Tryz.underlying64 Tryz.underlying5 g' 0 no cap xo (by have := ho.1; simpa using this) (fun j hj => ?_) 9 Tryz.underlying9⟩
          have hl := ho.1
          rw [List.length_map] at hl
          rw [Nat.zero_add, ho.cellAt j (by omega), List.getElem?_map, List.getElem?_eq_getElem (by omega)]
          simp [List.getD_eq_getElem?_getD, List.getElem?_eq_getElem (show j < xo.length by omega)]
      obtain ⟨s, hcv⟩ := hcv
      have q0 := blk_cell hg 0
      simp at q0
      obtain ⟨Ao, co, hvo⟩ := own_slice ho
      rw [hvo] at hcv q0
      clear hg ho hp hz hb hvo
      go_wp2_with fail
      go_ret2
      exact ⟨⟨s, rfl⟩, HB4.out⟩
end Go.Proofs.YthjcmodhleoocaaGreatDoor.Z
/- ZPlain -/
namespace Go.Proofs.YthjcmodhleoocaaGreatDoor.Z
open Go.Proofs.YthjcmodhleoocaaGreatDoor.TP
section
variable {N : List Nd} {Z : List Tx} {D : Nat → Int}
theorem ps_len (N : List Nd) : (psOf N).length = N.length := by simp [psOf]
theorem nd_dn (h : NdOk N Z D N.length) : Dn (psOf N) := fun i hi => h.rng (Nat.le_refl _) i (by rw [ps_len] at hi; exact hi)
theorem nd_at (i : Nat) (hi : i < N.length) : N[i]? = some N[i] := List.getElem?_eq_getElem hi
theorem nd_pre (h : NdOk N Z D N.length) : PreO (psOf N) := fun i hi => by
  rw [ps_len] at hi
  rw [rdi_ps (nd_at i hi)]
  exact (h i _ hi (nd_at i hi)).ch
theorem nd_forest (h : NdOk N Z D N.length) : Forest (psOf N) := by
  have hd := nd_dn h
  refine ⟨fun x hx hx' => ?_, fun j hj hj' hc => ?_⟩
  · obtain ⟨k, rfl⟩ := Int.eq_ofNat_of_zero_le hx
    have := hd k (by omega)
    omega
  · obtain ⟨k, rfl⟩ := Int.eq_ofNat_of_zero_le hj
    obtain ⟨_, m, hm, hu⟩ := hc
    obtain ⟨m', rfl⟩ : ∃ m', m = m' + 1 := ⟨m - 1, by omega⟩
    rw [up_succ, stp_nn hj] at hu
    have h1 := hd k (by omega)
    have := up_le hd m' (rdi (psOf N) (k : Int)) (by omega)
    omega
theorem pre_id {ps : List Int} {L : List Lab} (hl : LabOf ps L) (hP : PreO ps) (hD : Dn ps) : ∀ (i : Nat) (l : Lab), L[i]? = some l → l.pre = i := by
  have step : ∀ d i, i + d < ps.length → ∀ l l', L[i]? = some l → L[i + d]? = some l' → l.pre + d ≤ l'.pre := by
    intro d
    induction d with
    | zero => intro i hi l l' h1 h2; rw [Nat.add_zero, h1] at h2; cases h2; exact Nat.le_refl _
    | succ d ih =>
      intro i hi l l' h1 h2
      obtain ⟨lx, ly, a, b, c⟩ := hl.mono hP hD (i + d) (i + d + 1) (by omega) (by omega) (by omega)
      have := ih i (by omega) l lx h1 a
      rw [show i + (d + 1) = i + d + 1 by omega, b] at h2
      cases h2
      omega
  intro i l h
  have hi : i < ps.length := by have := (List.getElem?_eq_some_iff.1 h).1; rw [hl.len] at this; exact this
  have h0 : L[0]? = some (L[0]'(by rw [hl.len]; omega)) := List.getElem?_eq_getElem _
  have hn : L[ps.length - 1]? = some (L[ps.length - 1]'(by rw [hl.len]; omega)) := List.getElem?_eq_getElem _
  have a := step i 0 (by omega) _ l h0 (by rw [Nat.zero_add]; exact h)
  have b := step (ps.length - 1 - i) i (by omega) l _ h (by rw [show i + (ps.length - 1 - i) = ps.length - 1 by omega]; exact hn)
  have c := (hl.rng _ _ hn).1
  omega
/-- Node k stands above node i. -/
def Above (ps : List Int) (k i : Nat) : Prop := ∃ m, up ps m (rdi ps (i : Int)) = (k : Int)
theorem above_sub {ps : List Int} {k i : Nat} (h : Above ps k i) : Sub ps k i := by
  obtain ⟨m, hm⟩ := h
  exact ⟨m + 1, by rw [up_succ, stp_nn (by omega)]; exact hm⟩
theorem above_of {ps : List Int} {k i : Nat} (h : Sub ps k i) (hne : k ≠ i) : Above ps k i := by
  obtain ⟨m, hm⟩ := h
  cases m with
  | zero => have e : (i : Int) = (k : Int) := hm; omega
  | succ m => rw [up_succ, stp_nn (by omega)] at hm; exact ⟨m, hm⟩
theorem dom_iff {ps : List Int} {L : List Lab} (hf : Forest ps) (hl : LabOf ps L) {k i : Nat} (hk : k < ps.length) (hi : i < ps.length) {a b : Lab} (ha : L[k]? = some a) (hb : L[i]? = some b) : (a.pre < b.pre ∧ b.post < a.post) ↔ Above ps k i := by
  by_cases e : k = i
  · subst e
    rw [ha] at hb; cases hb
    refine ⟨fun h => by omega, fun h => ?_⟩
    obtain ⟨m, hm⟩ := h
    exact absurd (by rw [up_succ, stp_nn (by omega)]; exact hm) (no_loop hf hk (m := m + 1) (by omega))
  · obtain ⟨lx, ly, h1, h2, h3⟩ := hl.ord k i hk hi e
    rw [ha] at h1; cases h1
    rw [hb] at h2; cases h2
    rcases h3 with ⟨s, p, q⟩ | ⟨s, p, q⟩ | ⟨s, t, h⟩
    · exact ⟨fun _ => above_of s e, fun _ => ⟨p, q⟩⟩
    · exact ⟨fun h => by omega, fun h => absurd (Sub.anti hf hk (above_sub h) s) e⟩
    · exact ⟨fun h' => by omega, fun h' => absurd (above_sub h') s⟩
theorem prec_iff {ps : List Int} {L : List Lab} (hl : LabOf ps L) (hP : PreO ps) (hD : Dn ps) {k i : Nat} (hk : k < ps.length) (hi : i < ps.length) {a b : Lab} (ha : L[k]? = some a) (hb : L[i]? = some b) (h : a.pre < b.pre ∧ a.post < b.post) : k < i ∧ ¬ Sub ps k i := by
  have e1 := pre_id hl hP hD k a ha
  have e2 := pre_id hl hP hD i b hb
  refine ⟨by omega, fun s => ?_⟩
  obtain ⟨lx, ly, h1, h2, h3⟩ := hl.ord k i hk hi (by omega)
  rw [ha] at h1; cases h1
  rw [hb] at h2; cases h2
  rcases h3 with ⟨_, p, q⟩ | ⟨_, p, q⟩ | ⟨t, _⟩
  · omega
  · omega
  · exact t s
theorem nested (h : NdOk N Z D N.length) : ∀ (m i k : Nat) (x y : Nd), N[i]? = some x → N[k]? = some y → up (psOf N) m (i : Int) = (k : Int) → y.b ≤ x.b ∧ x.e ≤ y.e := by
  intro m
  induction m with
  | zero =>
    intro i k x y hx hy e
    have e2 : (i : Int) = (k : Int) := e
    obtain rfl : i = k := by omega
    rw [hx] at hy; cases hy
    exact ⟨Int.le_refl _, Int.le_refl _⟩
  | succ m ih =>
    intro i k x y hx hy e
    rw [up_succ, stp_nn (by omega), rdi_ps hx] at e
    have h0 : 0 ≤ x.p := by
      rcases Int.lt_or_le x.p 0 with h1 | h1
      · rw [up_neg m h1] at e; omega
      · exact h1
    obtain ⟨j, hj⟩ := Int.eq_ofNat_of_zero_le h0
    have hi : i < N.length := (List.getElem?_eq_some_iff.1 hx).1
    have hr := h.rng (Nat.le_refl _) i hi
    rw [rdi_ps hx] at hr
    have hjn := nd_at (N := N) j (by omega)
    have hn := (h i x hi hx).nest _ h0 (by rw [hj, Int.toNat_natCast]; exact hjn)
    rw [hj] at e
    have := ih j k _ y hjn hy e
    omega
theorem hit_least {ps : List Int} {x p : Int} : ∀ m, up ps m x = p → x ≠ p → ∃ m', up ps (m' + 1) x = p ∧ up ps m' x ≠ p := by
  intro m
  induction m with
  | zero => intro h hne; exact absurd h hne
  | succ m ih =>
    intro h hne
    by_cases e : up ps m x = p
    · exact ih e hne
    · exact ⟨m, h, e⟩
theorem win_lt (h : NdOk N Z D N.length) {i : Nat} {x : Nd} (hx : N[i]? = some x) : x.b < x.e := by
  obtain ⟨u, _, hu⟩ := List.any_eq_true.1 (h i x (List.getElem?_eq_some_iff.1 hx).1 hx).win
  simp only [hldB, Bool.and_eq_true, decide_eq_true_eq] at hu
  exact hu.2.1
theorem before (h : NdOk N Z D N.length) : ∀ (i k : Nat) (x y : Nd), N[i]? = some x → N[k]? = some y → k < i → ¬ Sub (psOf N) k i → y.e ≤ x.b := by
  have hd := nd_dn h
  have hP := nd_pre h
  intro i
  induction i using Nat.strongRecOn with
  | _ i ih =>
    intro k x y hx hy hki hns
    have hi : i < N.length := (List.getElem?_eq_some_iff.1 hx).1
    have hat := h i x hi hx
    have hr := h.rng (Nat.le_refl _) i hi
    have hrx := rdi_ps hx
    rw [hrx] at hr
    by_cases hkp : (k : Int) ≤ x.p
    · obtain ⟨q, hq⟩ := Int.eq_ofNat_of_zero_le (show 0 ≤ x.p by omega)
      have hqn := nd_at (N := N) q (by omega)
      have hsub : Sub (psOf N) q i := ⟨1, by rw [up_succ, stp_nn (by omega), hrx, hq]; rfl⟩
      have hne : k ≠ q := fun e => hns (e ▸ hsub)
      have h1 := ih q (by omega) k _ y hqn hy (by omega) (fun hs => hns (hs.trans hsub))
      have h2 := hat.nest _ (by omega) (by rw [hq, Int.toNat_natCast]; exact hqn)
      omega
    · obtain ⟨m, hm⟩ := hat.ch
      obtain ⟨m', hm1, hm2⟩ := hit_least m hm (by omega)
      rw [up_out] at hm1
      have hs0 : 0 ≤ up (psOf N) m' ((i : Int) - 1) := by
        rcases Int.lt_or_le (up (psOf N) m' ((i : Int) - 1)) 0 with h1 | h1
        · rw [stp_neg h1] at hm1; exact absurd hm1 hm2
        · exact h1
      rw [stp_nn hs0] at hm1
      obtain ⟨s, hs⟩ := Int.eq_ofNat_of_zero_le hs0
      have hsle := up_le hd m' ((i : Int) - 1) (by rw [ps_len]; omega)
      rw [hs] at hm1 hsle
      have hsn := nd_at (N := N) s (by omega)
      have hsp : (N[s]'(by omega)).p = x.p := by rw [← rdi_ps hsn]; exact hm1
      have hsr := hd s (by rw [ps_len]; omega)
      rw [hm1] at hsr
      have hsub1 : Sub (psOf N) s (i - 1) := ⟨m', by rw [show (((i - 1 : Nat) : Int)) = (i : Int) - 1 by omega]; exact hs⟩
      have hin : ∀ j, s < j → j < i → Sub (psOf N) s j := fun j h1 h2 => sub_in hP h1 (i - 1 - j) (i - 1) (by omega) (by rw [ps_len]; omega) hsub1
      have hsib := hat.sib s _ (by omega) hsn hsp (fun s' y' q1 q2 q3 e => by
        obtain ⟨a, ha⟩ := above_of (hin s' q1 q2) (by omega)
        rw [rdi_ps q3, e] at ha
        have := up_le hd a x.p (by rw [ps_len]; omega)
        omega)
      rcases Nat.lt_trichotomy k s with h1 | h1 | h1
      · have hns2 : ¬ Sub (psOf N) k s := fun hsk => by
          obtain ⟨a, ha⟩ := above_of hsk (by omega)
          rw [hm1] at ha
          have := up_le hd a x.p (by rw [ps_len]; omega)
          omega
        have h2 := ih s (by omega) k _ y hsn hy h1 hns2
        have h3 := win_lt h hsn
        omega
      · subst h1
        rw [hsn] at hy; cases hy
        exact hsib
      · obtain ⟨a, ha⟩ := hin k h1 hki
        have := nested h a k s y _ hy hsn ha
        omega
end
end Go.Proofs.YthjcmodhleoocaaGreatDoor.Z
/- ZEnd -/
namespace Go.Proofs.YthjcmodhleoocaaGreatDoor.Z
open Go Go.RowKit Go.Lib
set_option linter.unusedVariables false
set_option linter.unusedSimpArgs false
theorem app0 {T e size bytes : Nat} (E : El T e size bytes) (ty : TypeId) (A B : Option Addr) (n cA cB : Nat) (hn : n ≤ cA) (w : World) : (Builtin.append_ #[T, T] ty #[.slice A n cA, .slice B 0 cB]).run Tryz.prog w = .ok (.slice A n cA) w := by
  obtain ⟨i, z, h2, h3, h4, h5, h6⟩ := E.i
  have hl : ∀ (x : Addr), (loadCells x 0).run Tryz.prog w = .ok #[] w := fun x => by simpa using run_loadCells_list (P := Tryz.prog) w x [] (by simp)
  cases A <;> cases B <;> simp [Builtin.append_, run_underlying E.u, Builtin.lenOf, Builtin.firstCells, sizeOf, typeInfo, h2, storeCells, hl, hn]
set_option maxRecDepth 100000 in
set_option maxHeartbeats 8000000 in
theorem endRegion (w : World) (x n go co : Nat) (av tv xv : Value) (At : Option Addr) (ct : Nat) (c : Bool) (nm : ByteArray) (htv : tv = .slice At n ct) (hn : 1 ≤ n ∧ n ≤ 100)
    (hx : w.heap[x]? = some (.cells #[av, tv, xv, .slice none 0 0, .slice none 0 0, .slice none 0 0, .slice none 0 0, .slice (some ⟨go, 0, none⟩) 1 co, .bool true] 93 (0, 0)))
    (ho : w.ownsRow 0 78 4 (.slice (some ⟨go, 0, none⟩) 1 co) 1 [.string nm, .int .i64 0, .int .i64 0, .slice none 0 0]) :
    Calls Tryz.prog 65 #[.pointer (some ⟨x, 0, none⟩), .agg #[.bool c, .string nm, .slice none 0 0]] w fun r w' => r = .returned (.int .i64 0) ∧ ∃ rv, w'.heap[x]? = some (.cells #[av, tv, xv, rv, .slice none 0 0, .slice none 0 0, .slice none 0 0, .slice (some ⟨go, 0, none⟩) 0 co, .bool true] 93 (0, 0)) ∧
      w'.ownsRow w.heap.size 78 4 rv 1 [.string nm, .int .i64 0, .int .i64 n, .slice none 0 0] ∧ Ch (fun k => k = x) w w' := by
  subst htv
  have hxl := blk_lt hx
  have hgo : go < w.heap.size := (ho.lt go rfl).2
  have hgx : go ≠ x := fun e => own_ne ho hx (by decide) (by simp [Value.ownBlock, e])
  have hb1 : Below w.heap.size w (w.alloc (.cells #[.bool c, .string nm, .slice none 0 0] 112)) := (Below.refl _ w).alloc (Nat.le_refl _) _
  have hx1 := blk_alloc hx (.cells #[.bool c, .string nm, .slice none 0 0] 112)
  have ht1 := blk_new w (.cells #[.bool c, .string nm, .slice none 0 0] 112)
  have q1 := blk_cell hx 1
  have q3 := blk_cell hx 3
  have q7 := blk_cell hx 7
  have q8 := blk_cell hx 8
  have o0 := ho.cellAt 0 (by omega)
  have o1 := ho.cellAt 1 (by omega)
  have o2 := ho.cellAt 2 (by omega)
  have o3 := ho.cellAt 3 (by omega)
  simp at q1 q3 q7 q8 o0 o1 o2 o3
  have hn1 : ((0 : Int) == n) = false := by rw [beq_eq_false_iff_ne]; omega
  go_enter Tryz.func65, Tryz.ntmps65
  go_wp2
  have g1 := blk_cell ht1 1
  have g0 : (w.alloc (.cells #[.bool c, .string nm, .slice none 0 0] 112)).heap[go]? = w.heap[go]? := Below.heap_alloc w _ go hgo
  go_loopg [5] 0 (fun q v w' => v = .int .i64 0 ∧ w' = w.alloc (.cells #[.bool c, .string nm, .slice none 0 0] 112))
  case atStart => exact ⟨rfl, rfl⟩
  case round =>
    obtain ⟨rfl, rfl⟩ := hrel
    go_wp2
    go_quiet (fail)
    revert nq
    intro nq1
    go_wp2
    go_quiet (fail)
    go_wp2_with fail
    revert nq
    intro nq2
    obtain ⟨rb, hrb⟩ : ∃ rb, rb = w.heap.size + 1 := ⟨_, rfl⟩
    have HR := Lib.hid hrb
    have hr2 : (((((w.alloc (.cells #[.bool c, .string nm, .slice none 0 0] 112)).drewN nq1).alloc (.cells #[.string nm, .int .i64 0, .int .i64 0, .slice none 0 0] 78)).drewN nq2).setCell ⟨w.heap.size + 1, 2, none⟩ (.int .i64 n)).heap[rb]? = some (Go.Obj.cells #[.string nm, .int .i64 0, .int .i64 n, .slice none 0 0] 78 (0, 0)) := by
      rw [hrb]; exact blk_put (blk_drewN (by simpa using blk_new ((w.alloc (.cells #[.bool c, .string nm, .slice none 0 0] 112)).drewN nq1) (.cells #[.string nm, .int .i64 0, .int .i64 0, .slice none 0 0] 78)) nq2) 2 (.int .i64 n) rfl
    have hx2 := blk_far (p := ⟨w.heap.size + 1, 2, none⟩) (blk_drewN (blk_alloc (blk_drewN hx1 nq1) (.cells #[.string nm, .int .i64 0, .int .i64 0, .slice none 0 0] 78)) nq2) (by simp; omega) (.int .i64 n)
    have hb2 := (bdrewN ((bdrewN hb1 nq1).alloc (by simp) (.cells #[.string nm, .int .i64 0, .int .i64 0, .slice none 0 0] 78)) nq2).setCell (p := ⟨w.heap.size + 1, 2, none⟩) (by simp) (.int .i64 n)
    rw [← hrb]
    rw [← hrb] at hr2 hx2 hb2
    clear hrb hx1 ht1 hb1 q1 q3 q7 q8 o0 o1 o2 o3 g0 g1
    generalize ((((w.alloc (.cells #[.bool c, .string nm, .slice none 0 0] 112)).drewN nq1).alloc (.cells #[.string nm, .int .i64 0, .int .i64 0, .slice none 0 0] 78)).drewN nq2).setCell ⟨rb, 2, none⟩ (.int .i64 n) = w2 at *
    refine T_start (fun w' : World => w'.cell? ⟨x, 3, none⟩ = some (.slice none 0 0) ∧ w'.cell? ⟨rb, 0, none⟩ = some (.string nm) ∧ w'.cell? ⟨rb, 1, none⟩ = some (.int .i64 0) ∧ w'.cell? ⟨rb, 2, none⟩ = some (.int .i64 n) ∧ w'.cell? ⟨rb, 3, none⟩ = some (.slice none 0 0)) 12 (n := 13) (by kernel_rfl) rfl rfl ?_
    have hS : (fun w' : World => w'.cell? ⟨x, 3, none⟩ = some (.slice none 0 0) ∧ w'.cell? ⟨rb, 0, none⟩ = some (.string nm) ∧ w'.cell? ⟨rb, 1, none⟩ = some (.int .i64 0) ∧ w'.cell? ⟨rb, 2, none⟩ = some (.int .i64 n) ∧ w'.cell? ⟨rb, 3, none⟩ = some (.slice none 0 0)) w2.drew := ⟨blk_cell hx2 3, blk_cell hr2 0, blk_cell hr2 1, blk_cell hr2 2, blk_cell hr2 3⟩
    simp only [Array.replicate_succ, Array.replicate_zero, List.push_toArray, List.nil_append, List.cons_append]
    refine tk 0 60 (by kernel_rfl) hS (h := ?_)
    refine tk 1 61 (by kernel_rfl) hS (h := ?_)
    refine tk 2 62 (by kernel_rfl) hS (h := ?_)
    refine tk 3 63 (by kernel_rfl) hS (h := ?_)
    refine tk 4 64 (by kernel_rfl) hS (h := ?_)
    refine tk 5 65 (by kernel_rfl) hS (h := ?_)
    refine tk 6 66 (by kernel_rfl) hS (h := ?_)
    refine one 7 (h := ?_)
    intro K hK
    go_simp
    have hx3 := blk_alloc hx2 (.cells #[.string nm, .int .i64 0, .int .i64 n, .slice none 0 0] 78)
    have hr3 := blk_alloc hr2 (.cells #[.string nm, .int .i64 0, .int .i64 n, .slice none 0 0] 78)
    refine hK _ _ (fun _ => ⟨blk_cell hx3 3, blk_cell hr3 0, blk_cell hr3 1, blk_cell hr3 2, blk_cell hr3 3⟩) ?_
    clear hK K
    refine one 8 (h := ?_)
    intro K hK
    refine wp_app el25 (.tmp 65) (.tmp 67) rfl w2.heap.size (v := .slice none 0 0) (by simp [Act.eval]) (World.ownsRow_nil _ _ _ _) ⟨w2.heap.size, 0, none⟩ 1 1 [.string nm, .int .i64 0, .int .i64 n, .slice none 0 0] (by simp [Act.eval]) rfl (World.news_of_block (blk_new _ _)) (fun u hu => by simp at hu; rcases hu with rfl | rfl | rfl | rfl <;> rfl) (by omega) (by simp) ?_
    intro v' w12 h7 h8
    obtain ⟨g', cap, rfl, hg', hgz⟩ := own_form h7
    have hx12 := (h8.block x (by have := blk_lt hx3; simpa using this) (fun e => nomatch e)).trans hx3
    have hr12 := (h8.block rb (by have := blk_lt hr3; simpa using this) (fun e => nomatch e)).trans hr3
    have hS12 : (fun w' : World => w'.cell? ⟨x, 3, none⟩ = some (.slice none 0 0) ∧ w'.cell? ⟨rb, 0, none⟩ = some (.string nm) ∧ w'.cell? ⟨rb, 1, none⟩ = some (.int .i64 0) ∧ w'.cell? ⟨rb, 2, none⟩ = some (.int .i64 n) ∧ w'.cell? ⟨rb, 3, none⟩ = some (.slice none 0 0)) w12 := ⟨blk_cell hx12 3, blk_cell hr12 0, blk_cell hr12 1, blk_cell hr12 2, blk_cell hr12 3⟩
    refine hK _ _ (fun _ => hS12) ?_
    clear hK K
    simp only [Act.put, List.setIfInBounds_toArray, List.set_cons_zero, List.set_cons_succ]
    refine tk 9 69 (by kernel_rfl) hS12 (h := ?_)
    refine tk 10 70 (by kernel_rfl) hS12 (h := ?_)
    refine tk 11 71 (by kernel_rfl) hS12 (h := ?_)
    refine one 12 (h := ?_)
    intro K hK
    have u7 := blk_cell hx12 3
    have f7 := blk_frozen hx12 3
    simp at u7
    go_simp
    refine hK _ _ (fun h => absurd rfl h) (T_done ?_)
    clear hK K
    have hx5 := blk_put hx12 3 (.slice (some ⟨g', 0, none⟩) 1 cap) rfl
    have hC5 : Ch (fun k => k = x) w (w12.setCell ⟨x, 3, none⟩ (.slice (some ⟨g', 0, none⟩) 1 cap)) := (((Ch.of_below (fun k => k = x) hb2).alloc (.cells #[.string nm, .int .i64 0, .int .i64 n, .slice none 0 0] 78)).drew.grown h8 (fun k hk => nomatch hk)).set (p := ⟨x, 3, none⟩) (.inl rfl) _
    have hw5 := own_set (own_lower h7 hb2.size) (own_ne h7 hx12 (by decide)) (p := ⟨x, 3, none⟩) (.slice (some ⟨g', 0, none⟩) 1 cap)
    have hco : 1 ≤ co := by
      rcases ho.2 with ⟨e, _⟩ | ⟨g, cp, cur, e, _, _, h1, _⟩
      · cases e
      · simp only [Value.slice.injEq] at e
        omega
    go_wp2_with fail
    generalize w12.setCell ⟨x, 3, none⟩ (.slice (some ⟨g', 0, none⟩) 1 cap) = w5 at *
    have hc1 : (1 : Int) ≤ co := by omega
    have hc0 : (0 : Int) ≤ co := by omega
    have hwr : IntKind.i64.wrap 1 = 1 := rfl
    obtain ⟨ga, hif⟩ : ∃ ga : Addr, (if co = 1 then some (⟨go, 0, none⟩ : Addr) else some ⟨go, 4, none⟩) = some ga := by split <;> exact ⟨_, rfl⟩
    refine T_start (fun w' : World => w'.cell? ⟨x, 7, none⟩ = some (.slice (some ⟨go, 0, none⟩) 1 co)) 17 (n := 18) (by kernel_rfl) rfl rfl ?_
    have hS : (fun w' : World => w'.cell? ⟨x, 7, none⟩ = some (.slice (some ⟨go, 0, none⟩) 1 co)) w5.drew := blk_cell hx5 7
    simp only [Array.replicate_succ, Array.replicate_zero, List.push_toArray, List.nil_append, List.cons_append]
    refine tk 0 72 (by kernel_rfl) hS (h := ?_)
    refine tk 1 73 (by kernel_rfl) hS (h := ?_)
    refine tk 2 74 (by kernel_rfl) hS (h := ?_)
    refine tk 3 75 (by kernel_rfl) hS (h := ?_)
    refine tk 4 76 (by kernel_rfl) hS (h := ?_)
    refine tk 5 77 (by kernel_rfl) hS (h := ?_)
    refine tk 6 78 (by kernel_rfl) hS (h := ?_)
    refine tk 7 79 (by kernel_rfl) hS (h := ?_)
    refine tk 8 80 (by kernel_rfl) hS (h := ?_)
    refine tk 9 81 (by kernel_rfl) hS (h := ?_)
    refine tk 10 82 (by kernel_rfl) hS (h := ?_)
    refine tk 11 83 (by kernel_rfl) hS (h := ?_)
    refine tk 12 84 (by kernel_rfl) hS (h := ?_)
    refine tk 13 85 (by kernel_rfl) hS (h := ?_)
    refine tk 14 86 (by kernel_rfl) hS (h := ?_)
    refine tk 15 87 (by kernel_rfl) hS (h := ?_)
    refine tk 16 88 (by kernel_rfl) hS (h := ?_)
    refine one 17 (h := ?_)
    intro K hK
    have u7 := blk_cell hx5 7
    have f7 := blk_frozen hx5 7
    simp at u7
    go_simp
    refine hK _ _ (fun h => absurd rfl h) (T_done ?_)
    clear hK K
    have hx6 := blk_put hx5 7 (.slice (some ⟨go, 0, none⟩) 0 co) rfl
    go_wp2
    go_ret
    exact ⟨rfl, _, hx6, own_set hw5 (own_ne hw5 hx5 (by decide)) _, hC5.drew.set (p := ⟨x, 7, none⟩) (.inl rfl) _⟩
end Go.Proofs.YthjcmodhleoocaaGreatDoor.Z
/- ZEndText -/
namespace Go.Proofs.YthjcmodhleoocaaGreatDoor.Z
open Go Go.RowKit Go.Lib
set_option linter.unusedVariables false
set_option linter.unusedSimpArgs false
set_option maxRecDepth 100000 in
set_option maxHeartbeats 8000000 in
theorem endText (w : World) (x n gt cx B co : Nat) (av tv rv : Value) (At Ao : Option Addr) (ct : Nat) (c : Bool) (nm id : ByteArray) (htv : tv = .slice At n ct) (hn : 1 ≤ n ∧ n ≤ 100)
    (hx : w.heap[x]? = some (.cells #[av, tv, .slice (some ⟨gt, 0, none⟩) 1 cx, rv, .slice none 0 0, .slice none 0 0, .slice none 0 0, .slice Ao 0 co, .bool true] 93 (0, 0)))
    (ho : w.ownsRow B 85 4 (.slice (some ⟨gt, 0, none⟩) 1 cx) 1 [.string id, .int .i64 0, .int .i64 (-1), .slice none 0 0]) :
    Calls Tryz.prog 67 #[.pointer (some ⟨x, 0, none⟩), .agg #[.bool c, .string nm, .slice none 0 0]] w fun r w' => r = .returned (.int .i64 0) ∧ w'.heap[x]? = some (.cells #[av, tv, .slice (some ⟨gt, 0, none⟩) 1 cx, rv, .slice none 0 0, .slice none 0 0, .slice none 0 0, .slice Ao 0 co, .bool false] 93 (0, 0)) ∧
      w'.ownsRow B 85 4 (.slice (some ⟨gt, 0, none⟩) 1 cx) 1 [.string id, .int .i64 0, .int .i64 n, .slice none 0 0] ∧ Ch (fun k => k = x ∨ k = gt) w w' := by
  subst htv
  have hxl := blk_lt hx
  have hgt : gt < w.heap.size := (ho.lt gt rfl).2
  have hgx : gt ≠ x := fun e => own_ne ho hx (by decide) (by simp [Value.ownBlock, e])
  have q1 := blk_cell hx 1
  have q2 := blk_cell hx 2
  have q7 := blk_cell hx 7
  have q8 := blk_cell hx 8
  have qf := blk_frozen hx 8
  have o1 := ho.cellAt 1 (by omega)
  have o2 := ho.cellAt 2 (by omega)
  have of := ho.frozenAt 2
  simp at q1 q2 q7 q8 o1 o2
  have hn1 : ((0 : Int) == n) = false := by rw [beq_eq_false_iff_ne]; omega
  go_enter Tryz.func67, Tryz.ntmps67
  go_wp2
  go_quiet (fail)
  go_wp2
  go_quiet (fail)
  go_wp2
  have hb1 : Below w.heap.size w (w.alloc (.cells #[.bool c, .string nm, .slice none 0 0] 112)) := (Below.refl _ w).alloc (Nat.le_refl _) _
  have ho1 := (ho.alloc (.cells #[.bool c, .string nm, .slice none 0 0] 112)).stored 2 (.int .i64 n)
  have hx1 := blk_put (blk_far (p := ⟨gt, 2, none⟩) (blk_alloc hx (.cells #[.bool c, .string nm, .slice none 0 0] 112)) (Ne.symm hgx) (.int .i64 n)) 8 (.bool false) rfl
  go_ret
  exact ⟨rfl, hx1, own_set ho1.1 (by simp [Value.ownBlock]; exact hgx) (p := ⟨x, 8, none⟩) _, (((Ch.of_below (fun k => k = x ∨ k = gt) hb1).drewN _).set (p := ⟨gt, 2, none⟩) (.inl (.inr rfl)) _).set (p := ⟨x, 8, none⟩) (.inl (.inl rfl)) _⟩
end Go.Proofs.YthjcmodhleoocaaGreatDoor.Z
