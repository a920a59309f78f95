/- For every corpus that comes in, TopConstituents returns true and leaves the corpus as it was; the listed variables are tied to the program's text. (Part 4.) -/
import Derived.Test.YthjcmodhleoocaaGreatDoorMT3
import Derived.OrdersHeld
import Derived.StillTail
import Derived.Deep.RegionHeld
import Derived.Deep.AppendLies
import Derived.Test.YthjcmodhleoocaaGreatDoorMT2
import Derived.Test.YthjcmodhleoocaaGreatDoorMT1
import Derived.Laws.Cover1
set_option linter.unusedVariables false
set_option linter.unusedSimpArgs false
set_option linter.unusedSectionVars false
/- ZToken -/
namespace Go.Proofs.YthjcmodhleoocaaGreatDoor.Z
open Go Go.RowKit Go.Lib
set_option linter.unusedVariables false
set_option linter.unusedSimpArgs false
/-- Of what was there, only what P names may have turned. -/
structure Ch (P : Nat → Prop) (w w' : World) : Prop where
  os : w'.os = w.os
  tape : w'.tape = w.tape
  output : w'.output = w.output
  size : w.heap.size ≤ w'.heap.size
  rest : ∀ k, k < w.heap.size → ¬ P k → w'.heap[k]? = w.heap[k]?
theorem Ch.refl (P : Nat → Prop) (w : World) : Ch P w w := ⟨rfl, rfl, rfl, Nat.le_refl _, fun _ _ _ => rfl⟩
theorem Ch.trans {P : Nat → Prop} {a b c : World} (h : Ch P a b) (k : Ch P b c) : Ch P a c :=
  ⟨k.os.trans h.os, k.tape.trans h.tape, k.output.trans h.output, Nat.le_trans h.size k.size, fun i hi hp => (k.rest i (Nat.lt_of_lt_of_le hi h.size) hp).trans (h.rest i hi hp)⟩
theorem Ch.of_below (P : Nat → Prop) {w w' : World} (h : Below w.heap.size w w') : Ch P w w' := ⟨h.os, h.tape, h.output, h.size, fun k hk _ => h.block k hk⟩
theorem Ch.below_ {P : Nat → Prop} {a w w' : World} (h : Ch P a w) (k : Below w.heap.size w w') : Ch P a w' := h.trans (.of_below P k)
theorem Ch.mono {P P' : Nat → Prop} {w w' : World} (h : Ch P w w') (hp : ∀ k, P k → P' k) : Ch P' w w' := ⟨h.os, h.tape, h.output, h.size, fun k hk hn => h.rest k hk (fun x => hn (hp k x))⟩
theorem Ch.below {P : Nat → Prop} {B : Nat} {w w' : World} (h : Ch P w w') (hp : ∀ k, P k → B ≤ k) (hB : B ≤ w.heap.size) : Below B w w' := ⟨h.os, h.tape, h.output, h.size, fun k hk => h.rest k (by omega) (fun x => by have := hp k x; omega)⟩
theorem Ch.alloc {P : Nat → Prop} {a w : World} (h : Ch P a w) (o : Obj) : Ch P a (w.alloc o) := h.below_ ((Below.refl _ _).alloc (Nat.le_refl _) o)
theorem Ch.drewN {P : Nat → Prop} {a w : World} (h : Ch P a w) (n : Nat) : Ch P a (w.drewN n) := ⟨h.os, h.tape, h.output, h.size, h.rest⟩
theorem Ch.set {P : Nat → Prop} {a w : World} (h : Ch P a w) {p : Addr} (hp : P p.block ∨ a.heap.size ≤ p.block) (v : Value) : Ch P a (w.setCell p v) :=
  ⟨h.os, h.tape, h.output, by simpa [World.setCell] using h.size, fun k hk hn => (Below.heap_setCell w p v k (fun e => by subst e; rcases hp with hp | hp; exact hn hp; omega)).trans (h.rest k hk hn)⟩
theorem Ch.grown {P : Nat → Prop} {a w w' : World} {row : Option Nat} (h : Ch P a w) (hg : w.grownBy w' row) (hr : ∀ k, row = some k → P k ∨ a.heap.size ≤ k) : Ch P a w' :=
  ⟨hg.os.trans h.os, hg.tape.trans h.tape, hg.output.trans h.output, Nat.le_trans h.size hg.size, fun k hk hn => (hg.block k (Nat.lt_of_lt_of_le hk h.size) (fun e => by rcases hr k e.symm with hp | hp; exact hn hp; omega)).trans (h.rest k hk hn)⟩
theorem own_ne {w : World} {base e size n : Nat} {v : Value} {xs : List Value} (h : w.ownsRow base e size v n xs) {x t : Nat} {cs : Array Value} (hx : w.heap[x]? = some (.cells cs t (0, 0))) (ht : e ≠ t) : v.ownBlock ≠ some x := by
  rcases h.2 with ⟨rfl, _⟩ | ⟨g, cap, cur, rfl, hg, hh, _⟩
  · simp [Value.ownBlock]
  · intro e'
    have : g = x := by simpa [Value.ownBlock] using e'
    subst this
    rw [hx] at hh
    injection hh with hh
    injection hh with _ hh
    exact ht hh.symm
theorem own_ne2 {w : World} {base e size n base' e' size' n' : Nat} {v v' : Value} {xs xs' : List Value} (h : w.ownsRow base e size v n xs) (h' : w.ownsRow base' e' size' v' n' xs') (ht : e ≠ e') (k : Nat) (hk : v'.ownBlock = some k) : v.ownBlock ≠ some k := by
  rcases h'.2 with ⟨rfl, _⟩ | ⟨g, cap, cur, rfl, hg, hh, _⟩
  · simp [Value.ownBlock] at hk
  · have : g = k := by simpa [Value.ownBlock] using hk
    subst this
    exact own_ne h hh ht
theorem own_ch {P : Nat → Prop} {w w' : World} {base e size n : Nat} {v : Value} {xs : List Value} (h : w.ownsRow base e size v n xs) (hc : Ch P w w') (hp : ∀ k, v.ownBlock = some k → ¬ P k) : w'.ownsRow base e size v n xs :=
  own_move h (fun k hk => hc.rest k (h.lt k hk).2 (hp k hk))
theorem el28 : El 28 9 1 16 := .mk' (z := .string ⟨#[]⟩) Tryz.underlying28 (by kernel_rfl) rfl (by omega) (by omega)
theorem el23 : El 23 28 1 24 := .mk' (z := .slice none 0 0) Tryz.underlying23 (by kernel_rfl) rfl (by omega) (by omega)
theorem errVal (a s : ByteArray) (w : World) : Calls Tryz.prog 91 #[.agg #[.string a, .bool false], .string s] w fun e w' => e = .returned (.int .i64 (vv s)) ∧ Below w.heap.size w w' := by
  go_enter Tryz.func91, Tryz.ntmps91
  go_wp2_with (go_at_call 98; refine (mkValue_calls s _).mono ?_; rintro e w' ⟨rfl, hb⟩)
  go_ret
  exact ⟨rfl, ((Below.refl _ w).alloc (Nat.le_refl _) _).trans (hb.mono (by simp))⟩
theorem cell_1 (w : World) (u : Value) (t : TypeId) {n : Nat} (hn : n = w.heap.size) (j : Nat) (v : Value) (h : [u][j]? = some v) : (w.alloc (.cells #[u] t)).cell? ((⟨n, 0, none⟩ : Addr).add j) = some v := by
  subst hn
  exact cell_one w u t j v h
/-- A byte that may stand as a token. -/
structure Tok (s : ByteArray) : Prop where
  sz : s.size = 1
  am : byteAt s 0 ≠ 38
  vv : vv s = 0
  tab : Lib.countB s ⟨#[9]⟩ = 0
set_option maxRecDepth 100000 in
set_option maxHeartbeats 4000000 in
theorem token (w : World) (x B n : Nat) (av tv xv rv ov : Value) (wd s : ByteArray) (ts : List Value) (hB : B ≤ w.heap.size) (hn : n ≤ 100)
    (hx : w.heap[x]? = some (.cells #[av, tv, xv, rv, .slice none 0 0, .slice none 0 0, .slice none 0 0, ov, .bool true] 93 (0, 0)))
    (ha : w.ownsRow B 73 2 av 1 [.string wd, .bool false]) (ht : w.ownsRow B 28 1 tv n ts) (K : Tok s) :
    Calls Tryz.prog 62 #[.pointer (some ⟨x, 0, none⟩), .string s] w fun r w' => r = .returned (.agg #[.int .i64 0, .int .i64 0]) ∧ ∃ tv' sv, w'.heap[x]? = some (.cells #[av, tv', xv, rv, .slice none 0 0, .slice none 0 0, .slice none 0 0, ov, .bool true] 93 (0, 0)) ∧
      w'.ownsRow B 28 1 tv' (n + 1) (ts ++ [sv]) ∧ w'.ownsRow w.heap.size 9 1 sv 1 [.string s] ∧ Ch (fun k => k = x ∨ tv.ownBlock = some k) w w' := by
  have hxl := blk_lt hx
  have c1 := blk_cell hx 1
  have c8 := blk_cell hx 8
  simp at c1 c8
  obtain ⟨At, ct, rfl⟩ := own_slice ht
  have hn0 : ((n : Int) == 4096) = false := by rw [beq_eq_false_iff_ne]; omega
  go_enter Tryz.func62, Tryz.ntmps62
  go_wp2_with (go_at_call 89; refine (split1 s 9 K.tab (by have := K.sz; omega) _).mono ?_; rintro r w1 ⟨rfl, hw1⟩; rw [hw1])
  obtain ⟨ga, ca, rfl, hga, hgl⟩ := own_form ha
  have A0 := ha.cellAt 0 (by omega)
  have A1 := ha.cellAt 1 (by omega)
  have hs1 := K.sz
  have hvv := K.vv
  have hb2 : Below w.heap.size w ((w.alloc (.cells #[.int .i64 0, .int .i64 0] 97)).alloc (.cells #[.string s] 9)) := ((Below.refl _ w).alloc (Nat.le_refl _) _).alloc (by simp) _
  have hr2 : ((w.alloc (.cells #[.int .i64 0, .int .i64 0] 97)).alloc (.cells #[.string s] 9)).heap[w.heap.size]? = some (.cells #[.int .i64 0, .int .i64 0] 97 (0, 0)) := blk_alloc (blk_new w _) _
  have hl2 : ((w.alloc (.cells #[.int .i64 0, .int .i64 0] 97)).alloc (.cells #[.string s] 9)).heap[w.heap.size + 1]? = some (.cells #[.string s] 9 (0, 0)) := by simpa using blk_new (w.alloc (.cells #[.int .i64 0, .int .i64 0] 97)) (.cells #[.string s] 9)
  generalize ((w.alloc (.cells #[.int .i64 0, .int .i64 0] 97)).alloc (.cells #[.string s] 9)) = w2 at *
  have L2 := blk_cell hl2 0
  simp at L2
  have HV := Lib.hid hvv
  have HS1 := Lib.hid hs1
  clear hvv hs1 hw1
  go_loopg [5, 6, 32] 1 (fun q v5 v6 v32 w' => (q = 1 ∧ v5 = .slice none 0 0 ∧ v6 = .int .i64 0 ∧ v32 = .int .i64 0 ∧ w' = w2) ∨
    (q = 0 ∧ v32 = .int .i64 1 ∧ w'.ownsRow w.heap.size 9 1 v5 1 [.string s] ∧ Below w.heap.size w w' ∧ w'.heap[w.heap.size]? = some (.cells #[.int .i64 0, .int .i64 0] 97 (0, 0))))
  case atStart => exact .inl ⟨rfl, rfl, rfl, rfl, rfl⟩
  case round =>
    rcases hrel with ⟨rfl, rfl, rfl, rfl, rfl⟩ | ⟨rfl, rfl, ho, hb, hr⟩
    · have hx2 := (hb2.block x hxl).trans hx
      have d0 := blk_cell hx2 0
      simp at d0
      have A02 := (World.cell?_of_block (a := ⟨ga, 0, none⟩) (hb2.block ga hgl)).trans A0
      have A12 := (World.cell?_of_block (a := ⟨ga, 1, none⟩) (hb2.block ga hgl)).trans A1
      simp at A02 A12
      have gl2 : ga < wr.heap.size := Nat.lt_of_lt_of_le hgl hb2.size
      go_wp2_with (first
        | (go_at_call 90; refine (unesc1 s HS1.out K.am _).mono ?_; rintro r w3 ⟨rfl, hb3⟩; have hx3 := (hb3.block x (blk_lt hx2)).trans hx2; have d3 := blk_cell hx3 0; simp at d3; have A03 := (World.cell?_of_block (a := ⟨ga, 0, none⟩) (hb3.block ga gl2)).trans A02; have A13 := (World.cell?_of_block (a := ⟨ga, 1, none⟩) (hb3.block ga gl2)).trans A12)
        | (go_at_call 91; refine (errVal wd s _).mono ?_; rintro r w4 ⟨rfl, hb4⟩; rw [HV.out])
        | (at_builtin; refine app el28 rfl _ _ rfl w.heap.size rfl (World.ownsRow_nil _ _ _ _) ⟨_, 0, none⟩ 1 1 [.string s] rfl rfl (cell_1 _ _ _ (by simp)) (fun u hu => by simp at hu; subst hu; rfl) (by omega) (by have := hb2.size; have := hb3.size; have := hb4.size; simp; omega) ?_; intro v' w5 h7 h8))
      have hb5 : Below w.heap.size w w5 := (((hb2.trans (hb3.mono hb2.size)).trans (hb4.mono (Nat.le_trans hb2.size hb3.size))).alloc (by have := hb2.size; have := hb3.size; have := hb4.size; omega) _).grown h8 (by have := hb2.size; have := hb3.size; have := hb4.size; simp; omega) (fun k hk => nomatch hk)
      have hr5 : w5.heap[w.heap.size]? = some (.cells #[.int .i64 0, .int .i64 0] 97 (0, 0)) := by
        have l2 := blk_lt hr2
        exact (h8.block _ (by have := hb3.size; have := hb4.size; simp; omega) (fun e => nomatch e)).trans (blk_alloc ((hb4.block _ (by have := hb3.size; omega)).trans ((hb3.block _ l2).trans hr2)) _)
      go_roundg 0
      case measure => omega
      case rel => exact .inr ⟨rfl, rfl, h7, hb5, hr5⟩
    · have hx2 := (hb.block x hxl).trans hx
      have d0 := blk_cell hx2 0
      have d1 := blk_cell hx2 1
      have d2 := blk_frozen hx2 1
      simp at d0 d1
      have r0 := blk_cell hr 0
      have r1 := blk_cell hr 1
      have r2 := blk_frozen hr 0
      have r3 := blk_frozen hr 1
      simp at r0 r1
      obtain ⟨gs, cs, rfl, hgs, hgsl⟩ := own_form ho
      have hot := own_ch ht (Ch.of_below (fun _ => False) hb) (fun _ _ h => h)
      have nx : (Value.slice At n ct).ownBlock ≠ some x := own_ne hot hx2 (by decide)
      have nr : (Value.slice At n ct).ownBlock ≠ some w.heap.size := own_ne hot hr (by decide)
      go_wp2_with (at_builtin; refine app el23 rfl _ _ rfl B rfl (hot.alloc (.cells #[.slice (some ⟨gs, 0, none⟩) 1 cs] 28)) ⟨_, 0, none⟩ 1 1 [.slice (some ⟨gs, 0, none⟩) 1 cs] rfl rfl (cell_1 _ _ _ (by simp)) (fun u hu => by simp at hu; subst hu; rfl) (by omega) (by have := hb.size; simp; omega) ?_; intro v' w5 h7 h8; obtain ⟨g5, c5, hv5, hg5, hgl5⟩ := own_form h7; subst hv5; have hx5 := (h8.block x (by have := blk_lt hx2; simp; omega) (fun e => nx e.symm)).trans (blk_alloc hx2 _); have hr5 := (h8.block w.heap.size (by have := blk_lt hr; simp; omega) (fun e => nr e.symm)).trans (blk_alloc hr _); have d0 := blk_cell hx5 0; have d1 := blk_cell hx5 1; have d2 := blk_frozen hx5 1; simp at d0 d1; have r0 := blk_cell hr5 0; have r1 := blk_cell hr5 1; have r2 := blk_frozen hr5 0; have r3 := blk_frozen hr5 1; simp at r0 r1)
      have e5x := own_ne h7 hx5 (by decide)
      have e5r := own_ne h7 hr5 (by decide)
      have esx := own_ne ho hx2 (by decide)
      have esr := own_ne ho hr (by decide)
      have hs5 : w5.ownsRow w.heap.size 9 1 (.slice (some ⟨gs, 0, none⟩) 1 cs) 1 [.string s] :=
        own_move (ho.alloc (.cells #[.slice (some ⟨gs, 0, none⟩) 1 cs] 28)) (fun k hk => h8.block k (((ho.alloc (.cells #[.slice (some ⟨gs, 0, none⟩) 1 cs] 28)).lt k hk).2) (fun e => own_ne2 ho hot (by decide) k e.symm hk))
      have ne1 : x ≠ w.heap.size := by omega
      have f1 := blk_put (blk_put (blk_far (p := ⟨x, 1, none⟩) hr5 (Ne.symm ne1) (.slice (some ⟨g5, 0, none⟩) (n + 1) c5)) 0 (.int .i64 0) rfl) 1 (.int .i64 0) rfl
      have f2 := blk_far (p := ⟨w.heap.size, 1, none⟩) (blk_far (p := ⟨w.heap.size, 0, none⟩) (blk_put hx5 1 (.slice (some ⟨g5, 0, none⟩) (n + 1) c5) rfl) ne1 (.int .i64 0)) ne1 (.int .i64 0)
      have y0 := blk_cell f1 0
      have y1 := blk_cell f1 1
      simp at y0 y1
      refine bodyPost_ret (v := .agg #[.int .i64 0, .int .i64 0]) (by simp [results, Tryz.results62, go_sem, y0, y1]) rfl ⟨rfl, _, .slice (some ⟨gs, 0, none⟩) 1 cs, f2, own_set (own_set (own_set h7 e5x _) e5r _) e5r _, own_set (own_set (own_set hs5 esx _) esr _) esr _, ?_⟩
      refine (((((Ch.of_below _ hb).alloc _).grown h8 (fun k hk => .inl (.inr hk))).set (p := ⟨x, 1, none⟩) (.inl (.inl rfl)) _).set (p := ⟨w.heap.size, 0, none⟩) (.inr (Nat.le_refl _)) _).set (p := ⟨w.heap.size, 1, none⟩) (.inr (Nat.le_refl _)) _
end Go.Proofs.YthjcmodhleoocaaGreatDoor.Z
/- ZReg -/
namespace Go.Proofs.YthjcmodhleoocaaGreatDoor.Z
open Go Go.RowKit Go.Lib
set_option linter.unusedVariables false
set_option linter.unusedSimpArgs false
section
variable {P : Program} {ops : Array Oper} {Q : Exit → Act → World → Prop} {md : Region.Mode} {S : World → Prop} {m : Nat}
def wpAnyT (P : Program) (md : Region.Mode) (ops : Array Oper) (Q : Exit → Act → World → Prop) (S : World → Prop) (m : Nat) : Nat → Array Bool → Act → World → Prop
  | 0, listed, a, w => Region.ready md ops listed = [] ∧ Q .normal a w
  | fuel + 1, listed, a, w =>
    (Region.ready md ops listed = [] → Q .normal a w) ∧
    ∀ i ∈ Region.ready md ops listed, wpOp P ops Q i (fun a' w' => (i ≠ m → S w') ∧ wpAnyT P md ops Q S m fuel (listed.setIfInBounds i true) a' w') a w
theorem wpAny_of_T : ∀ (fuel : Nat) (listed : Array Bool) (a : Act) (w : World), wpAnyT P md ops Q S m fuel listed a w → wpAny P md ops Q fuel listed a w
  | 0, _, _, _, h => h
  | fuel + 1, _, _, _, h => ⟨h.1, fun i hi => wpOp_mono (fun a' w' h' => wpAny_of_T fuel _ a' w' h'.2) (h.2 i hi)⟩
def lastB (md : Region.Mode) (ops : Array Oper) (m : Nat) : Bool := (List.range ops.size).all fun i => i == m || (List.range ops.size).any fun j => decide (i < j) && Region.waitsFor md ops j i
/-- What has come up had all that it waits for. -/
def Closed (md : Region.Mode) (ops : Array Oper) (listed : Array Bool) : Prop := ∀ j oj, ops[j]? = some oj → listed.getD j false = true → ∀ e ∈ oj.after, Region.binds md e = true → listed.getD e.on false = true
def closedB (md : Region.Mode) (ops : Array Oper) (listed : Array Bool) : Bool := (List.range ops.size).all fun j => !listed.getD j false || ((ops[j]?).map fun oj => oj.after.all fun e => !Region.binds md e || listed.getD e.on false).getD true
theorem closed_of {listed : Array Bool} (h : closedB md ops listed = true) : Closed md ops listed := by
  intro j oj hj hl e he hb
  have := List.all_eq_true.1 h j (List.mem_range.2 (Array.getElem?_eq_some_iff.1 hj).1)
  rw [hj, hl] at this
  simp only [Bool.not_true, Bool.false_or, Option.map_some, Option.getD_some] at this
  have := Array.all_eq_true'.1 this e he
  rw [hb] at this
  simpa using this
theorem Closed.set {i : Nat} {listed : Array Bool} (h : Closed md ops listed) (hi : i ∈ Region.ready md ops listed) : Closed md ops (listed.setIfInBounds i true) := by
  obtain ⟨_, oi, hoi, hall⟩ := mem_ready.1 hi
  intro j oj hj hl e he hb
  by_cases hij : i = j
  · subst hij
    have : oj = oi := Option.some.inj (hj.symm.trans hoi)
    subst this
    exact getD_set_true (hall e he hb)
  · rw [getD_set_ne false hij] at hl
    exact getD_set_true (h j oj hj hl e he hb)
theorem last_not_ready (hL : lastB md ops m = true) {listed : Array Bool} (hc : Closed md ops listed) {i : Nat} (hi : i < ops.size) (hne : i ≠ m) (hun : listed.getD i true = false) : m ∉ Region.ready md ops listed := by
  intro hm
  obtain ⟨_, om, hom, hall⟩ := mem_ready.1 hm
  have key : ∀ d i, ops.size - i = d → i < ops.size → i ≠ m → listed.getD i false = true := by
    intro d
    induction d using Nat.strongRecOn with
    | _ d ih =>
      intro i hd hi hne
      have h := List.all_eq_true.1 hL i (List.mem_range.2 hi)
      simp only [Bool.or_eq_true, beq_iff_eq, hne, false_or] at h
      obtain ⟨j, hj, hj2⟩ := List.any_eq_true.1 h
      simp only [Bool.and_eq_true, decide_eq_true_eq] at hj2
      obtain ⟨oj, hoj, e, he, hb, hon⟩ := Region.waitsFor_spec hj2.2
      have hjs := List.mem_range.1 hj
      by_cases hjm : j = m
      · subst hjm
        have : oj = om := Option.some.inj (hoj.symm.trans hom)
        subst this
        have := hall e he hb
        rwa [hon] at this
      · have := hc j oj hoj (ih (ops.size - j) (by omega) j rfl hjs hjm) e he hb
        rwa [hon] at this
  have := key _ i rfl hi hne
  rw [getD_both hun] at this
  cases this
theorem T_first {i : Nat} {oi : Oper} {v : Value} (hL : lastB md ops m = true) (him : i ≠ m) (hi : ops[i]? = some oi) (hsel : ∀ (j : Nat) (o : Oper) cs b, ops[j]? = some o → o.op ≠ .select cs b)
    (hQ : ∀ c a w, Q (.panic c) (a.put oi.dst v) w → Q (.panic c) a w) :
    ∀ (fuel : Nat) (listed : Array Bool) (a : Act) (w : World), Closed md ops listed →
      (∀ j oj, ops[j]? = some oj → j ≠ i → listed.getD j true = false → (∀ e ∈ oj.after, Region.binds md e = true → e.on ≠ i) → oi.apart ops oj = true) →
      i ∈ Region.ready md ops listed → YieldsIf P ops S oi v a → S w →
      wpAnyT P md ops Q S m fuel (listed.setIfInBounds i true) (a.put oi.dst v) w → wpAnyT P md ops Q S m (fuel + 1) listed a w := by
  intro fuel
  induction fuel with
  | zero =>
    intro listed a w _ _ hr hy hS H
    refine ⟨fun h => (by rw [h] at hr; cases hr), fun j hj => ?_⟩
    by_cases hji : j = i
    · subst hji; exact hy.wpOp hi hS ⟨fun _ => hS, H⟩
    · have := ready_mono hj hji
      rw [H.1] at this
      cases this
  | succ fuel ih =>
    intro listed a w hcl hfree hr hy hS H
    refine ⟨fun h => (by rw [h] at hr; cases hr), fun j hj => ?_⟩
    by_cases hji : j = i
    · subst hji; exact hy.wpOp hi hS ⟨fun _ => hS, H⟩
    · have h1 := H.2 j (ready_mono hj hji)
      obtain ⟨hjun, oj, hoj, hall⟩ := mem_ready.1 hj
      have hnot : ∀ e ∈ oj.after, Region.binds md e = true → e.on ≠ i := fun e he hb heq => by
        have h1 := hall e he hb
        have h0 := (mem_ready.1 hr).1
        rw [heq] at h1
        rcases Nat.lt_or_ge i listed.size with h' | h'
        · simp [h'] at h0 h1; rw [h0] at h1; cases h1
        · simp [Array.getElem?_eq_none h'] at h1
      have hjm : j ≠ m := by
        rintro rfl
        exact last_not_ready hL hcl (Array.getElem?_eq_some_iff.1 hi).1 him (mem_ready.1 hr).1 hj
      have h2 := wpOp_putIf hoj (hfree j oj hoj hji hjun hnot) (fun cs b => hsel i oi cs b hi) (fun cs b => hsel j oj cs b hoj) hQ hy h1
      have hfree' : ∀ k ok, ops[k]? = some ok → k ≠ i → (listed.setIfInBounds j true).getD k true = false →
          (∀ e ∈ ok.after, Region.binds md e = true → e.on ≠ i) → oi.apart ops ok = true := fun k ok hk hki hun hno => by
        refine hfree k ok hk hki ?_ hno
        by_cases hjk : j = k
        · subst hjk; exact hjun
        · rw [getD_set_ne true hjk] at hun; exact hun
      refine wpOp_mono (fun a' w' h3 => ⟨h3.2.1, ih (listed.setIfInBounds j true) a' w' (hcl.set hj) hfree' (ready_mono hr (Ne.symm hji)) h3.1 (h3.2.1 hjm) ?_⟩) h2
      rw [Array.setIfInBounds_comm _ _ hji]
      exact h3.2.2
/-- Take number i first: it yields v wherever S holds. -/
theorem tk (i : Nat) (N : Tmp) {oi : Oper} {v : Value} {fuel : Nat} {l l' : Array Bool} {a a' : Act} {w : World} (hL : lastB md ops m = true) (hS : S w)
    (him : i ≠ m := by decide) (hl : l.setIfInBounds i true = l' := by simp only [List.setIfInBounds_toArray, List.set_cons_zero, List.set_cons_succ]; rfl)
    (hi : ops[i]? = some oi := by rfl) (hN : oi.dst = some N := by rfl) (hcl : closedB md ops l = true := by kernel_rfl) (hs : Region.noSelect ops = true := by kernel_rfl) (hf : Region.free md ops l i = true := by kernel_rfl) (hr : (Region.ready md ops l).contains i = true := by kernel_rfl)
    (hQ : ∀ c a w, Q (.panic c) (a.put oi.dst v) w → Q (.panic c) a w := by exact fun _ _ _ h => h) (hw : Region.wanted oi (yielded ops a.tmps) = true := by rfl)
    (hy : ∀ w', S w' → (execOp a.eval oi).run P w' = .ok (.value v) w' := by intro w' hSw; (try dsimp only at hSw); go_simp; with_reducible rfl)
    (ha : a.put (some N) v = a' := by simp only [Act.put, List.setIfInBounds_toArray, List.set_cons_zero, List.set_cons_succ]; rfl)
    (h : wpAnyT P md ops Q S m fuel l' a' w) : wpAnyT P md ops Q S m (fuel + 1) l a w := by
  subst hl; subst ha
  exact T_first hL him hi (Region.noSelect_spec hs) hQ fuel l a w (closed_of hcl) (Region.free_spec hi hf) (by simpa using hr) (.inl ⟨hw, hy⟩) hS (by rw [hN]; exact h)
/-- Number i alone may come up. -/
theorem one (i : Nat) {oi : Oper} {fuel : Nat} {l l' : Array Bool} {a : Act} {w : World} (hl : l.setIfInBounds i true = l' := by simp only [List.setIfInBounds_toArray, List.set_cons_zero, List.set_cons_succ]; rfl)
    (hi : ops[i]? = some oi := by rfl) (hr : Region.ready md ops l = [i] := by kernel_rfl) (hg : Region.wanted oi (yielded ops a.tmps) = true := by rfl)
    (h : ∀ K : Act → World → Prop, (∀ a' w', (i ≠ m → S w') → wpAnyT P md ops Q S m fuel l' a' w' → K a' w') → Oper.wp P oi a w K Q) : wpAnyT P md ops Q S m (fuel + 1) l a w := by
  subst hl
  refine ⟨fun h0 => (by rw [hr] at h0; cases h0), fun j hj => ?_⟩
  rw [hr] at hj
  obtain rfl := List.mem_singleton.1 hj
  unfold wpOp
  simp only [hi, hg, if_true]
  exact .inl (h _ (fun a' w' h1 h2 => ⟨h1, h2⟩))
theorem T_done {l : Array Bool} {a : Act} {w : World} (h : Q .normal a w) (hr : Region.ready md ops l = [] := by kernel_rfl) : wpAnyT P md ops Q S m 0 l a w := ⟨hr, h⟩
theorem T_start (S : World → Prop) (m : Nat) {id n : Nat} {l : Array Bool} {a : Act} {w : World} (hm : P.follows .mixedOrders = true) (hn : ops.size = n) (hl : Array.replicate n false = l)
    (h : wpAnyT P .any ops Q S m n l a w.drew) : (Code.region id ops true).wp P Q a w := by
  subst hn; subst hl
  exact wp_region_any hm (wpAny_of_T _ _ _ _ h)
end
theorem Ch.drew {P : Nat → Prop} {a w : World} (h : Ch P a w) : Ch P a w.drew := ⟨h.os, h.tape, h.output, h.size, h.rest⟩
theorem wp_app {T e size bytes : Nat} (E : El T e size bytes) {w : World} {o : Oper} {a : Act} {K : Act → World → Prop} {Q : Exit → Act → World → Prop} (s x : Operand)
    (ho : o.op = .call { callee := .builtin .append, args := #[s, x], argTypes := #[T, T] }) (base : Nat) {v : Value} {n : Nat} {xs : List Value} (hs : a.eval s = v) (hown : w.ownsRow base e size v n xs)
    (ad : Addr) (m c : Nat) (news : List Value) (hx : a.eval x = .slice (some ad) m c) (hl : news.length = m * size) (hnews : ∀ j u, news[j]? = some u → w.cell? (ad.add j) = some u) (h1 : ∀ u ∈ news, u.oneCell' = true)
    (hn : n + m ≤ 100000) (hbase : base ≤ w.heap.size)
    (h : ∀ v' w', w'.ownsRow base e size v' (n + m) (xs ++ news) → w.grownBy w' v.ownBlock → K (a.put o.dst v') w') : Oper.wp Tryz.prog o a w K Q := by
  obtain ⟨i, z, h2, h3, h4, h5, h6⟩ := E.i
  exact wp_append_own w s x T ho base e i z size bytes E.u h2 h3 h4 h5 h6 E.pos v n xs hs hown ad m c news hx hl hnews h1 (by unfold maxLen; omega)
    (Nat.le_trans (Nat.mul_le_mul hn E.small) (by omega)) hbase (fun v' w' h7 h8 _ => h v' w' h7 h8)
end Go.Proofs.YthjcmodhleoocaaGreatDoor.Z
/- ZBegin -/
namespace Go.Proofs.YthjcmodhleoocaaGreatDoor.Z
open Go Go.RowKit Go.Lib
set_option linter.unusedVariables false
set_option linter.unusedSimpArgs false
theorem el25 : El 25 78 4 56 := .mk' (z := .agg #[.string ⟨#[]⟩, .int .i64 0, .int .i64 0, .slice none 0 0]) Tryz.underlying25 (by kernel_rfl) rfl (by omega) (by omega)
set_option maxRecDepth 100000 in
set_option maxHeartbeats 4000000 in
theorem beginRegion (w : World) (x B n : Nat) (av tv xv : Value) (At : Option Addr) (ct : Nat) (c : Bool) (nm : ByteArray) (hB : B ≤ w.heap.size) (htv : tv = .slice At n ct) (hn : n ≤ 100)
    (hx : w.heap[x]? = some (.cells #[av, tv, xv, .slice none 0 0, .slice none 0 0, .slice none 0 0, .slice none 0 0, .slice none 0 0, .bool true] 93 (0, 0))) :
    Calls Tryz.prog 64 #[.pointer (some ⟨x, 0, none⟩), .agg #[.bool c, .string nm, .slice none 0 0]] w fun r w' => r = .returned (.int .i64 0) ∧ ∃ ov, w'.heap[x]? = some (.cells #[av, tv, xv, .slice none 0 0, .slice none 0 0, .slice none 0 0, .slice none 0 0, ov, .bool true] 93 (0, 0)) ∧
      w'.ownsRow w.heap.size 78 4 ov 1 [.string nm, .int .i64 n, .int .i64 0, .slice none 0 0] ∧ Ch (fun k => k = x) w w' := by
  subst htv
  have hxl := blk_lt hx
  have hb1 : Below w.heap.size w (w.alloc (.cells #[.bool c, .string nm, .slice none 0 0] 112)) := (Below.refl _ w).alloc (Nat.le_refl _) _
  have hx1 := blk_alloc hx (.cells #[.bool c, .string nm, .slice none 0 0] 112)
  have ht1 := blk_new w (.cells #[.bool c, .string nm, .slice none 0 0] 112)
  have q1 := blk_cell hx 1
  have q3 := blk_cell hx 3
  have q7 := blk_cell hx 7
  have q8 := blk_cell hx 8
  have qf := blk_frozen hx 7
  simp at q1 q3 q7 q8
  go_enter Tryz.func64, Tryz.ntmps64
  go_wp2
  go_quiet (fail)
  go_wp2
  have hb2 : Below w.heap.size w ((w.alloc (.cells #[.bool c, .string nm, .slice none 0 0] 112)).drewN nq) := bdrewN hb1 nq
  have hx2 : ((w.alloc (.cells #[.bool c, .string nm, .slice none 0 0] 112)).drewN nq).heap[x]? = some (.cells #[av, .slice At n ct, xv, .slice none 0 0, .slice none 0 0, .slice none 0 0, .slice none 0 0, .slice none 0 0, .bool true] 93 (0, 0)) := hx1
  have ht2 : ((w.alloc (.cells #[.bool c, .string nm, .slice none 0 0] 112)).drewN nq).heap[w.heap.size]? = some (.cells #[.bool c, .string nm, .slice none 0 0] 112 (0, 0)) := ht1
  clear q1 q3 q7 q8 qf hx1 ht1 hb1
  generalize ((w.alloc (.cells #[.bool c, .string nm, .slice none 0 0] 112)).drewN nq) = w2 at *
  have q1 := blk_cell hx2 1
  have q7 := blk_cell hx2 7
  have qf := blk_frozen hx2 7
  have p1 := blk_cell ht2 1
  have p2 := blk_cell ht2 2
  simp at q1 q7 p1 p2
  have m7 : ∀ o, (w2.alloc o).cell? ⟨x, 7, none⟩ = some (.slice none 0 0) := fun o => (World.cell?_of_block (Below.heap_alloc w2 o x (blk_lt hx2))).trans q7
  refine T_start (fun w' => w'.cell? ⟨x, 7, none⟩ = some (.slice none 0 0) ∧ w'.cell? ⟨x, 1, none⟩ = some (.slice At n ct) ∧ w'.cell? ⟨w.heap.size, 1, none⟩ = some (.string nm) ∧ w'.cell? ⟨w.heap.size, 2, none⟩ = some (.slice none 0 0)) 20 (n := 21) (by kernel_rfl) rfl rfl ?_
  have hS : (fun w' : World => w'.cell? ⟨x, 7, none⟩ = some (.slice none 0 0) ∧ w'.cell? ⟨x, 1, none⟩ = some (.slice At n ct) ∧ w'.cell? ⟨w.heap.size, 1, none⟩ = some (.string nm) ∧ w'.cell? ⟨w.heap.size, 2, none⟩ = some (.slice none 0 0)) w2.drew := ⟨q7, q1, p1, p2⟩
  simp only [Array.replicate_succ, Array.replicate_zero, List.push_toArray, List.nil_append, List.cons_append]
  refine tk 0 31 (by kernel_rfl) hS (h := ?_)
  refine tk 1 32 (by kernel_rfl) hS (h := ?_)
  refine tk 2 33 (by kernel_rfl) hS (h := ?_)
  refine tk 3 34 (by kernel_rfl) hS (h := ?_)
  refine tk 4 35 (by kernel_rfl) hS (h := ?_)
  refine tk 5 36 (by kernel_rfl) hS (h := ?_)
  refine tk 6 37 (by kernel_rfl) hS (h := ?_)
  refine tk 7 38 (by kernel_rfl) hS (h := ?_)
  refine tk 8 39 (by kernel_rfl) hS (h := ?_)
  refine tk 9 40 (by kernel_rfl) hS (h := ?_)
  refine tk 10 41 (by kernel_rfl) hS (h := ?_)
  refine tk 11 42 (by kernel_rfl) hS (h := ?_)
  refine tk 12 43 (by kernel_rfl) hS (h := ?_)
  refine tk 13 44 (by kernel_rfl) hS (h := ?_)
  refine tk 14 45 (by kernel_rfl) hS (h := ?_)
  refine tk 15 46 (by kernel_rfl) hS (h := ?_)
  refine one 16 (h := ?_)
  intro K hK
  go_simp
  have hx3 := blk_alloc hx2 (.cells #[.string nm, .int .i64 n, .int .i64 0, .slice none 0 0] 78)
  have ht3 := blk_alloc ht2 (.cells #[.string nm, .int .i64 n, .int .i64 0, .slice none 0 0] 78)
  refine hK _ _ (fun _ => ⟨blk_cell hx3 7, blk_cell hx3 1, blk_cell ht3 1, blk_cell ht3 2⟩) ?_
  clear hK K
  refine one 17 (h := ?_)
  intro K hK
  refine wp_app el25 (.tmp 35) (.tmp 47) rfl w2.heap.size (v := .slice none 0 0) (by simp [Act.eval]) (World.ownsRow_nil _ _ _ _) ⟨w2.heap.size, 0, none⟩ 1 1 [.string nm, .int .i64 n, .int .i64 0, .slice none 0 0] (by simp [Act.eval]) rfl (World.news_of_block (blk_new _ _)) (fun u hu => by simp at hu; rcases hu with rfl | rfl | rfl | rfl <;> rfl) (by omega) (by simp) ?_
  intro v' w12 h7 h8
  obtain ⟨g', cap, rfl, hg', hgz⟩ := own_form h7
  have hx12 := (h8.block x (by have := blk_lt hx3; simpa using this) (fun e => nomatch e)).trans hx3
  have ht12 := (h8.block w.heap.size (by have := blk_lt ht3; simpa using this) (fun e => nomatch e)).trans ht3
  have hS12 : (fun w' : World => w'.cell? ⟨x, 7, none⟩ = some (.slice none 0 0) ∧ w'.cell? ⟨x, 1, none⟩ = some (.slice At n ct) ∧ w'.cell? ⟨w.heap.size, 1, none⟩ = some (.string nm) ∧ w'.cell? ⟨w.heap.size, 2, none⟩ = some (.slice none 0 0)) w12 := ⟨blk_cell hx12 7, blk_cell hx12 1, blk_cell ht12 1, blk_cell ht12 2⟩
  refine hK _ _ (fun _ => hS12) ?_
  clear hK K
  simp only [Act.put, List.setIfInBounds_toArray, List.set_cons_zero, List.set_cons_succ]
  refine tk 18 49 (by kernel_rfl) hS12 (h := ?_)
  refine tk 19 50 (by kernel_rfl) hS12 (h := ?_)
  refine one 20 (h := ?_)
  intro K hK
  have u7 := blk_cell hx12 7
  have f7 := blk_frozen hx12 7
  simp at u7
  go_simp
  refine hK _ _ (fun h => absurd rfl h) (T_done ?_)
  clear hK K
  have hf := blk_put hx12 7 (.slice (some ⟨g', 0, none⟩) (0 + 1) cap) rfl
  have hC : Ch (fun k => k = x) w w12 := ((Ch.of_below _ hb2).alloc (.cells #[.string nm, .int .i64 n, .int .i64 0, .slice none 0 0] 78)).drew.grown h8 (fun k hk => nomatch hk)
  go_wp2
  go_ret
  exact ⟨rfl, _, hf, own_set (own_lower h7 hb2.size) (own_ne h7 hx12 (by decide)) _, hC.set (p := ⟨x, 7, none⟩) (.inl rfl) _⟩
end Go.Proofs.YthjcmodhleoocaaGreatDoor.Z
/- ZVr -/
namespace Go.Proofs.YthjcmodhleoocaaGreatDoor.Z
open Go Go.RowKit Go.Lib
set_option linter.unusedVariables false
set_option linter.unusedSimpArgs false
/-- One text, from 0 to n, in the row at gx. -/
structure OneText (w : World) (gx : Nat) (id : ByteArray) (n : Nat) : Prop where
  h0 : w.cell? ⟨gx, 0, none⟩ = some (.string id)
  h1 : w.cell? ⟨gx, 1, none⟩ = some (.int .i64 0)
  h2 : w.cell? ⟨gx, 2, none⟩ = some (.int .i64 n)
  h3 : w.cell? ⟨gx, 3, none⟩ = some (.slice none 0 0)
theorem OneText.below {w w' : World} {gx n B : Nat} {id : ByteArray} (h : OneText w gx id n) (hb : Below B w w') (hB : gx < B) : OneText w' gx id n :=
  ⟨(hb.cell hB).trans h.h0, (hb.cell hB).trans h.h1, (hb.cell hB).trans h.h2, (hb.cell hB).trans h.h3⟩
theorem OneText.lt {w : World} {gx n : Nat} {id : ByteArray} (h : OneText w gx id n) : gx < w.heap.size := World.block_lt_of_cell? w _ h.h0
theorem textAtOne (a b d e f g : Value) (gx cx n : Nat) (id : ByteArray) (w : World) (hn : 1 ≤ n) (h : OneText w gx id n) :
    Calls Tryz.prog 78 #[.agg #[a, b, .slice (some ⟨gx, 0, none⟩) 1 cx, d, e, f, g], .int .i64 0] w fun r w' => r = .returned (.int .i64 0) ∧ Below w.heap.size w w' := by
  obtain ⟨h0, h1, h2, h3⟩ := h
  have hl := World.block_lt_of_cell? w _ h0
  have d1 : decide ((0 : Int) < n) = true := by simp; omega
  go_enter Tryz.func78, Tryz.ntmps78
  go_wp2
  go_loopg [10] 0 (fun q v w' => v = .int .i64 0 ∧ w' = w.alloc (.cells #[a, b, .slice (some ⟨gx, 0, none⟩) 1 cx, d, e, f, g] 30))
  case atStart => exact ⟨rfl, rfl⟩
  case round =>
    obtain ⟨rfl, rfl⟩ := hrel
    go_wp2
    go_ret
    exact ⟨rfl, ((Below.refl _ _).alloc (Nat.le_refl _) _).alloc (by simp) _⟩
theorem inTextOne (a b d e f g : Value) (gx cx n en : Nat) (id : ByteArray) (w : World) (hn : 1 ≤ en ∧ en ≤ n) (h : OneText w gx id n) :
    Calls Tryz.prog 73 #[.agg #[a, b, .slice (some ⟨gx, 0, none⟩) 1 cx, d, e, f, g], .int .i64 0, .int .i64 en] w fun r w' => r = .returned (.bool true) ∧ Below w.heap.size w w' := by
  have d1 : decide ((0 : Int) < en) = true := by simp; omega
  have d2 : decide ((en : Int) ≤ n) = true := by simp; omega
  have hl := h.lt
  have hb1 : Below w.heap.size w (w.alloc (.cells #[a, b, .slice (some ⟨gx, 0, none⟩) 1 cx, d, e, f, g] 30)) := (Below.refl _ w).alloc (Nat.le_refl _) _
  have hx1 := blk_new w (.cells #[a, b, .slice (some ⟨gx, 0, none⟩) 1 cx, d, e, f, g] 30)
  go_enter Tryz.func73, Tryz.ntmps73
  go_wp2_with fail
  generalize w.alloc (.cells #[a, b, .slice (some ⟨gx, 0, none⟩) 1 cx, d, e, f, g] 30) = w1 at *
  refine (textAtOne a b d e f g gx cx n id w1 (by omega) (h.below hb1 hl)).mono ?_
  rintro r w2 ⟨rfl, hb2⟩
  have hb3 : Below w.heap.size w w2 := hb1.trans (hb2.mono hb1.size)
  have hx2 := (hb2.block _ (blk_lt hx1)).trans hx1
  have x2 := blk_cell hx2 2
  have t2 := (h.below hb3 hl).h2
  simp at x2
  go_wp2
  go_ret
  exact ⟨rfl, hb3⟩
set_option maxRecDepth 100000 in
set_option maxHeartbeats 4000000 in
theorem vaNoReg (w : World) (av tv xv kv hv lv : Value) :
    Calls Tryz.prog 47 #[.agg #[av, tv, xv, .slice none 0 0, kv, hv, lv]] w fun r w' => r = .returned (.tuple #[.int .i64 0, .int .i64 0]) ∧ Below w.heap.size w w' := by
  go_enter Tryz.func47, Tryz.ntmps47
  go_wp2
  go_loopg [20] 0 (fun q v w' => v = .int .i64 0 ∧ w' = w.alloc (.cells #[av, tv, xv, .slice none 0 0, kv, hv, lv] 30))
  case atStart => exact ⟨rfl, rfl⟩
  case round =>
    obtain ⟨rfl, rfl⟩ := hrel
    go_wp2
    go_ret2
    exact ⟨rfl, (Below.refl _ _).alloc (Nat.le_refl _) _⟩
set_option maxRecDepth 100000 in
set_option maxHeartbeats 8000000 in
theorem vaReg (w : World) (gx cx n gr cr en : Nat) (av tv kv hv lv : Value) (id nm : ByteArray) (hn : 1 ≤ en ∧ en ≤ n) (hx : OneText w gx id n) (hnm : nmB nm = true)
    (r0 : w.cell? ⟨gr, 0, none⟩ = some (.string nm)) (r1 : w.cell? ⟨gr, 1, none⟩ = some (.int .i64 0)) (r2 : w.cell? ⟨gr, 2, none⟩ = some (.int .i64 en)) (r3 : w.cell? ⟨gr, 3, none⟩ = some (.slice none 0 0)) :
    Calls Tryz.prog 47 #[.agg #[av, tv, .slice (some ⟨gx, 0, none⟩) 1 cx, .slice (some ⟨gr, 0, none⟩) 1 cr, kv, hv, lv]] w fun r w' => r = .returned (.tuple #[.int .i64 0, .int .i64 0]) ∧ Below w.heap.size w w' := by
  have HN := Lib.hid hnm
  clear hnm
  have hl := World.block_lt_of_cell? w _ r0
  have hb1 : Below w.heap.size w (w.alloc (.cells #[av, tv, .slice (some ⟨gx, 0, none⟩) 1 cx, .slice (some ⟨gr, 0, none⟩) 1 cr, kv, hv, lv] 30)) := (Below.refl _ w).alloc (Nat.le_refl _) _
  have hx1 := blk_new w (.cells #[av, tv, .slice (some ⟨gx, 0, none⟩) 1 cx, .slice (some ⟨gr, 0, none⟩) 1 cr, kv, hv, lv] 30)
  go_enter Tryz.func47, Tryz.ntmps47
  go_wp2
  obtain ⟨cb, hcb⟩ : ∃ cb, cb = w.heap.size := ⟨_, rfl⟩
  rw [← hcb]
  have HC := Lib.hid hcb
  rw [← hcb] at hx1
  clear hcb
  generalize w.alloc (.cells #[av, tv, .slice (some ⟨gx, 0, none⟩) 1 cx, .slice (some ⟨gr, 0, none⟩) 1 cr, kv, hv, lv] 30) = w1 at *
  go_loopg [4, 20] 1 (fun q u v w' => (q = 1 ∧ u = .slice none 0 0 ∧ v = .int .i64 0 ∧ w' = w1) ∨ (q = 0 ∧ v = .int .i64 1 ∧ Below w.heap.size w w'))
  case atStart => exact .inl ⟨rfl, rfl, rfl, rfl⟩
  case round =>
    rcases hrel with ⟨rfl, rfl, rfl, rfl⟩ | ⟨rfl, rfl, hb⟩
    · have e0 := (hb1.cell hl).trans r0
      have e1 := (hb1.cell (p := ⟨gr, 1, none⟩) hl).trans r1
      have e2 := (hb1.cell (p := ⟨gr, 2, none⟩) hl).trans r2
      have e3 := (hb1.cell (p := ⟨gr, 3, none⟩) hl).trans r3
      have hgl : gr < wr.heap.size := Nat.lt_of_lt_of_le hl hb1.size
      have m0 : ∀ (o : Obj) (i : Nat), (wr.alloc o).cell? ⟨cb, i, none⟩ = #[av, tv, .slice (some ⟨gx, 0, none⟩) 1 cx, .slice (some ⟨gr, 0, none⟩) 1 cr, kv, hv, lv][i]? := fun o i => blk_cell (blk_alloc hx1 o) i
      go_wp2_with (first
        | (go_at_call 35; refine (validName nm _).mono ?_; rintro r w' ⟨rfl, rfl⟩; rw [HN.out]))
      refine (inTextOne av tv _ kv hv lv gx cx n en id _ hn ((hx.below hb1 hx.lt).below ((Below.refl wr.heap.size wr).alloc (Nat.le_refl _) _) (Nat.lt_of_lt_of_le hx.lt hb1.size))).mono ?_
      rintro r w3 ⟨rfl, hb3⟩
      obtain ⟨rb, hrb⟩ : ∃ rb, rb = wr.heap.size := ⟨_, rfl⟩
      have hr3 := (hb3.block wr.heap.size (by simp)).trans (blk_new wr (.cells #[.string nm, .int .i64 0, .int .i64 en, .slice none 0 0] 78))
      have hb4 : Below w.heap.size w w3 := (hb1.alloc hb1.size (.cells #[.string nm, .int .i64 0, .int .i64 en, .slice none 0 0] 78)).trans (hb3.mono (by have := hb1.size; simp; omega))
      rw [← hrb]
      rw [← hrb] at hr3
      have hrl : w.heap.size ≤ rb := by rw [hrb]; exact hb1.size
      clear hrb
      have y0 := blk_cell hr3 0
      have y1 := blk_cell hr3 1
      have y2 := blk_cell hr3 2
      have y3 := blk_cell hr3 3
      simp at y0 y1 y2 y3
      clear e0 e1 e2 e3 m0 hx1
      go_wp2_with (go_at_call 72; refine (noPairs _).mono ?_; rintro r w3 ⟨rfl, rfl⟩)
      go_quiet (fail)
      go_wp2
      go_loopg [8, 63] 0 (fun q u v w' => u = .slice none 0 0 ∧ v = .int .i64 0 ∧ ∃ k, w' = w3.drewN k)
      case atStart => exact ⟨rfl, rfl, _, rfl⟩
      case round =>
        obtain ⟨rfl, rfl, nk, rfl⟩ := hrel
        go_wp2
        go_loopg [79] 0 (fun q v w' => v = .int .i64 0 ∧ w' = w3.drewN nk)
        case atStart => exact ⟨rfl, rfl⟩
        case round =>
          obtain ⟨rfl, rfl⟩ := hrel
          go_wp2_with (at_builtin; refine app el25 rfl _ _ rfl w.heap.size rfl (World.ownsRow_nil _ _ _ _) ⟨_, 0, none⟩ 1 1 [.string nm, .int .i64 0, .int .i64 en, .slice none 0 0] rfl rfl (World.news_of_block (blk_new _ _)) (fun u hu => by simp at hu; rcases hu with rfl | rfl | rfl | rfl <;> rfl) (by omega) (by have := hb4.size; simp; omega) ?_; intro v' w5 h7 h8; obtain ⟨g5, c5, hv5, hg5, hgl5⟩ := own_form h7; subst hv5)
          have hb5 := ((bdrewN hb4 nk).alloc (by have := hb4.size; simpa using this) (.cells #[.string nm, .int .i64 0, .int .i64 en, .slice none 0 0] 78)).grown h8 (by have := hb4.size; simp; omega) (fun k hk => nomatch hk)
          go_roundg 0
          case measure => omega
          case rel => exact .inr ⟨rfl, rfl, hb5⟩
    · go_wp2
      go_ret2
      exact ⟨rfl, hb⟩
end Go.Proofs.YthjcmodhleoocaaGreatDoor.Z
/- ZVn -/
namespace Go.Proofs.YthjcmodhleoocaaGreatDoor.Z
open Go Go.RowKit Go.Lib
set_option linter.unusedVariables false
set_option linter.unusedSimpArgs false
/-- make([]T, n): a new row. -/
theorem mkf {T e size bytes : Nat} (E : El T e size bytes) {w : World} {ops : Array Oper} {rest : List Oper} {o : Oper} {a : Act} {Q : Exit → Act → World → Prop} (hg : o.guard = none) (l c : Operand) (hop : o.op = Op.makeSlice T l c)
    (n : Nat) (kl kc : IntKind) (hl : a.eval l = .int kl n) (hc : a.eval c = .int kc n) (hn : n ≤ 100000)
    (hK : ∀ w' xs, w'.ownsRow w.heap.size e size (.slice (some ⟨w.heap.size, 0, none⟩) n n) n xs → w.grownBy w' none → wpList Tryz.prog ops Q rest (a.put o.dst (.slice (some ⟨w.heap.size, 0, none⟩) n n)) w') :
    wpList Tryz.prog ops Q (o :: rest) a w := by
  obtain ⟨i, z, h2, h3, h4, h5, h6⟩ := E.i
  exact wpList_make_full w hg l c T hop w.heap.size e i z size E.u h2 h3 h4 kl kc n n n hl hc rfl rfl (by rw [h5]; exact Nat.le_trans (Nat.mul_le_mul E.small hn) (by omega)) (by unfold maxLen; omega) (Nat.le_refl _) (fun w' h7 h8 => hK w' _ h7 h8)
theorem grown_below {w w' : World} (h : w.grownBy w' none) : Below w.heap.size w w' := (Below.refl _ w).grown h (Nat.le_refl _) (fun k hk => nomatch hk)
theorem el27 : El 27 3 1 8 := .mk' (z := .int .i64 0) Tryz.underlying27 (by kernel_rfl) rfl (by omega) (by omega)
theorem el125 : El 125 4 1 1 := .mk' (z := .bool false) Tryz.underlying125 (by kernel_rfl) rfl (by omega) (by omega)
set_option maxRecDepth 100000 in
set_option maxHeartbeats 4000000 in
theorem vaNoNodes (w : World) (av tv xv rv hv lv : Value) :
    Calls Tryz.prog 48 #[.agg #[av, tv, xv, rv, .slice none 0 0, hv, lv]] w fun r w' => r = .returned (.tuple #[.int .i64 0, .int .i64 0]) ∧ Below w.heap.size w w' := by
  have hb1 : Below w.heap.size w (w.alloc (.cells #[av, tv, xv, rv, .slice none 0 0, hv, lv] 30)) := (Below.refl _ w).alloc (Nat.le_refl _) _
  have hx1 := blk_new w (.cells #[av, tv, xv, rv, .slice none 0 0, hv, lv] 30)
  go_enter Tryz.func48, Tryz.ntmps48
  go_wp2_with (first
    | (at_make; refine mkf (w := w.alloc (.cells #[av, tv, xv, rv, .slice none 0 0, hv, lv] 30)) el27 rfl _ _ rfl 1 _ _ rfl rfl (by omega) ?_; intro w2 xs h2 g2; have hx2 := ((grown_below g2).block w.heap.size (by simp)).trans hx1; have hb2 : Below w.heap.size w w2 := hb1.trans ((grown_below g2).mono (by simp)); have x4 := blk_cell hx2 4; simp at x4)
    | (at_make; refine mkf el27 rfl _ _ rfl 1 _ _ rfl rfl (by omega) ?_; intro w3 xs3 h3 g3; have hx3 := ((grown_below g3).block w.heap.size (blk_lt hx2)).trans hx2; have x5 := blk_cell hx3 4; simp at x5))
  have hb3 : Below w.heap.size w w3 := hb2.trans ((grown_below g3).mono hb2.size)
  go_loopg [26] 0 (fun q v w' => v = .int .i64 0 ∧ Below w.heap.size w w')
  case atStart => exact ⟨rfl, hb3⟩
  case round =>
    obtain ⟨rfl, hb⟩ := hrel
    go_wp2
    go_ret2
    exact ⟨rfl, hb⟩
set_option maxRecDepth 100000 in
theorem noCycles (w : World) : Calls Tryz.prog 77 #[.slice none 0 0] w fun r w' => (∃ v, r = .returned v) ∧ Below w.heap.size w w' := by
  go_enter Tryz.func77, Tryz.ntmps77
  go_wp2_with (first
    | (at_make; refine mkf el125 rfl _ _ rfl 0 _ _ rfl rfl (by omega) ?_; intro w2 xs h2 g2)
    | (at_make; refine mkf el27 rfl _ _ rfl 0 _ _ rfl rfl (by omega) ?_; intro w3 xs3 h3 g3))
  go_loopg [16] 0 (fun q v w' => v = .int .i64 0 ∧ Below w.heap.size w w')
  case atStart => exact ⟨rfl, (grown_below g2).trans ((grown_below g3).mono (grown_below g2).size)⟩
  case round =>
    obtain ⟨rfl, hb⟩ := hrel
    go_wp2
    go_ret
    exact ⟨⟨_, rfl⟩, hb⟩
set_option maxRecDepth 100000 in
set_option maxHeartbeats 4000000 in
theorem vaNoHeads (w : World) (av tv xv rv kv : Value) :
    Calls Tryz.prog 49 #[.agg #[av, tv, xv, rv, kv, .slice none 0 0, .slice none 0 0]] w fun r w' => r = .returned (.tuple #[.int .i64 0, .int .i64 0]) ∧ Below w.heap.size w w' := by
  have hb1 : Below w.heap.size w (w.alloc (.cells #[av, tv, xv, rv, kv, .slice none 0 0, .slice none 0 0] 30)) := (Below.refl _ w).alloc (Nat.le_refl _) _
  have hx1 := blk_new w (.cells #[av, tv, xv, rv, kv, .slice none 0 0, .slice none 0 0] 30)
  go_enter Tryz.func49, Tryz.ntmps49
  go_wp2_with (go_at_call 77; refine (noCycles _).mono ?_; rintro r w3 ⟨⟨v3, rfl⟩, hb3⟩; have hx3 := (hb3.block w.heap.size (by simp)).trans hx1; have x5 := blk_cell hx3 5; simp at x5)
  go_loopg [43] 0 (fun q v w' => v = .int .i64 0 ∧ Below w.heap.size w w')
  case atStart => exact ⟨rfl, hb1.trans (hb3.mono (by simp))⟩
  case round =>
    obtain ⟨rfl, hb⟩ := hrel
    go_wp2
    go_ret2
    exact ⟨rfl, hb⟩
end Go.Proofs.YthjcmodhleoocaaGreatDoor.Z
/- ZFew -/
namespace Go.Proofs.YthjcmodhleoocaaGreatDoor.Z
open Go Go.RowKit Go.Lib
set_option linter.unusedVariables false
set_option linter.unusedSimpArgs false
/-- The block cb holds X, and what lay in w0 lies there still. -/
structure Bx (w0 w : World) (cb : Nat) (X : Array Value) (t : TypeId) : Prop where
  b : Below w0.heap.size w0 w
  x : w.heap[cb]? = some (.cells X t (0, 0))
theorem Bx.new (w : World) (X : Array Value) (t : TypeId) : Bx w (w.alloc (.cells X t)) w.heap.size X t := ⟨(Below.refl _ w).alloc (Nat.le_refl _) _, blk_new w _⟩
theorem Bx.up {w0 w w' : World} {cb : Nat} {X : Array Value} {t : TypeId} (h : Bx w0 w cb X t) (hb : Below w.heap.size w w') : Bx w0 w' cb X t := ⟨h.b.trans (hb.mono h.b.size), blk_below h.x hb⟩
theorem Bx.alloc {w0 w : World} {cb : Nat} {X : Array Value} {t : TypeId} (h : Bx w0 w cb X t) (o : Obj) : Bx w0 (w.alloc o) cb X t := h.up ((Below.refl _ w).alloc (Nat.le_refl _) o)
theorem Bx.c {w0 w : World} {cb : Nat} {X : Array Value} {t : TypeId} (h : Bx w0 w cb X t) (i : Nat) : w.cell? ⟨cb, i, none⟩ = X[i]? := blk_cell h.x i
theorem Bx.lt {w0 w : World} {cb : Nat} {X : Array Value} {t : TypeId} (h : Bx w0 w cb X t) : cb < w.heap.size := blk_lt h.x
theorem Bx.drewN {w0 w : World} {cb : Nat} {X : Array Value} {t : TypeId} (h : Bx w0 w cb X t) (n : Nat) : Bx w0 (w.drewN n) cb X t := ⟨bdrewN h.b n, h.x⟩
theorem Bx.drew {w0 w : World} {cb : Nat} {X : Array Value} {t : TypeId} (h : Bx w0 w cb X t) : Bx w0 w.drew cb X t := ⟨⟨h.b.os, h.b.tape, h.b.output, h.b.size, h.b.block⟩, h.x⟩
def RetB (r : Ending) : Prop := ∃ b, r = .returned (.bool b)
def RetI (r : Ending) : Prop := ∃ z, r = .returned (.int .i64 z)
def RetP (r : Ending) : Prop := ∃ y z, r = .returned (.tuple #[.int .i64 y, .int .i64 z])
theorem lim_of {n c : Nat} (h1 : n ≤ c) (h2 : c ≤ maxLen) : n ≤ 9223372036854775807 := by unfold maxLen at h2; omega
theorem beg4 (c : Int) (w : World) : Calls Tryz.prog 100 #[.int .u8 c] w fun e w' => e = .returned (.bool (begB c)) ∧ w = w' := by
  go_enter Tryz.func100, Tryz.ntmps100
  go_wp2
  all_goals
    go_ret
    exact ⟨ret_b (by rw [Bool.eq_iff_iff]; simp [begB] <;> omega), rfl⟩
theorem goesOn4 (c : Int) (w : World) : Calls Tryz.prog 101 #[.int .u8 c] w fun e w' => e = .returned (.bool (goB c)) ∧ w = w' := by
  go_enter Tryz.func101, Tryz.ntmps101
  go_wp2_with (go_at_call 100; refine (beg4 _ _).mono ?_; rintro e w' ⟨rfl, rfl⟩)
  all_goals
    go_ret
    exact ⟨ret_b (by rw [Bool.eq_iff_iff]; simp [goB, *] <;> omega), rfl⟩
theorem validName4 (s : ByteArray) (w : World) : Calls Tryz.prog 79 #[.string s] w fun r w' => r = .returned (.bool (nmB s)) ∧ w' = w := by
  by_cases h1 : 0 < s.size ∧ s.size ≤ 32
  · have hk : 0 < s.size := h1.1
    have k1 : decide ((s.size : Int) < 1) = false := by simp; omega
    have k2 : decide ((32 : Int) < s.size) = false := by simp; omega
    cases hb : begB (byteAt s 0) with
    | false =>
      have b1 : begB ((s[0]'hk).toNat : Int) = false := by rw [← byteAt_lt hk]; exact hb
      have hv : nmB s = false := by simp [nmB, hb]
      clear hb
      go_enter Tryz.func79, Tryz.ntmps79
      go_wp2_with (go_at_call 100; refine (beg4 _ _).mono ?_; rintro e w' ⟨rfl, rfl⟩; rw [b1])
      go_ret
      exact ⟨ret_b hv.symm, rfl⟩
    | true =>
      have b1 : begB ((s[0]'hk).toNat : Int) = true := by rw [← byteAt_lt hk]; exact hb
      have HB := Lib.hid hb
      clear hb
      go_enter Tryz.func79, Tryz.ntmps79
      go_wp2_with (go_at_call 100; refine (beg4 _ _).mono ?_; rintro e w' ⟨rfl, rfl⟩; rw [b1])
      go_loopg [3] s.size (fun q v w' => ∃ p : Nat, 1 ≤ p ∧ p + q = s.size + 1 ∧ v = .int .i64 p ∧ w' = w ∧ Aside (∀ k, k < p → goB (byteAt s k) = true))
      case atStart => exact ⟨1, by omega, by omega, rfl, rfl, ⟨fun k hk => by obtain rfl : k = 0 := by omega
                                                                              simp [goB, HB.out]⟩⟩
      case round =>
        obtain ⟨p, hp1, hp, rfl, rfl, HA⟩ := hrel
        by_cases hlt : p < s.size
        · have p0 : (0 : Int) ≤ p := by omega
          have p1 : decide ((p : Int) < s.size) = true := by simpa using hlt
          cases hg : goB (byteAt s p) with
          | true =>
            have g1 : goB ((s[p]'hlt).toNat : Int) = true := by rw [← byteAt_lt hlt]; exact hg
            have HG := Lib.hid hg
            clear hg
            go_wp2_with (go_at_call 101; refine (goesOn4 _ _).mono ?_; rintro e w' ⟨rfl, rfl⟩; rw [g1])
            go_roundg (gk - 1)
            case measure => omega
            case rel => exact ⟨p + 1, by omega, by omega, rfl, rfl, ⟨fun k hk => by rcases Nat.lt_succ_iff_lt_or_eq.1 hk with h | rfl; exact HA.out k h; exact HG.out⟩⟩
          | false =>
            have g1 : goB ((s[p]'hlt).toNat : Int) = false := by rw [← byteAt_lt hlt]; exact hg
            have hv : nmB s = false := by
              have : (List.range s.size).all (fun p => goB (byteAt s p)) = false := by
                rw [Bool.eq_false_iff]; intro h; have := List.all_eq_true.1 h p (List.mem_range.2 hlt); rw [hg] at this; cases this
              simp [nmB, this]
            clear hg
            go_wp2_with (go_at_call 101; refine (goesOn4 _ _).mono ?_; rintro e w' ⟨rfl, rfl⟩; rw [g1])
            go_ret
            exact ⟨ret_b hv.symm, rfl⟩
        · have p1 : decide ((p : Int) < s.size) = false := by simpa using hlt
          have hv : nmB s = true := by
            have h2 : (List.range s.size).all (fun p => goB (byteAt s p)) = true := List.all_eq_true.2 (fun k hk => HA.out k (by have := List.mem_range.1 hk; omega))
            simp only [nmB, h2, HB.out, Bool.and_true, decide_eq_true_eq]; exact h1
          go_wp2
          go_ret
          exact ⟨ret_b hv.symm, rfl⟩
  · have hv : nmB s = false := by simp only [nmB, decide_eq_false h1, Bool.false_and]
    by_cases h0 : s.size < 1
    · have k1 : decide ((s.size : Int) < 1) = true := by simp; omega
      go_enter Tryz.func79, Tryz.ntmps79
      go_wp2
      go_ret
      exact ⟨ret_b hv.symm, rfl⟩
    · have k1 : decide ((s.size : Int) < 1) = false := by simp; omega
      have k2 : decide ((32 : Int) < s.size) = true := by simp; omega
      go_enter Tryz.func79, Tryz.ntmps79
      go_wp2
      go_ret
      exact ⟨ret_b hv.symm, rfl⟩
theorem sign6 (b : Bool) (w : World) : Calls Tryz.prog 104 #[.bool b] w fun r w' => RetI r ∧ w' = w := by
  cases b <;>
  · go_enter Tryz.func104, Tryz.ntmps104
    go_wp2
    go_ret
    exact ⟨⟨_, rfl⟩, rfl⟩
theorem compare6 (s t : ByteArray) (w : World) : Calls Tryz.prog 105 #[.string s, .string t] w fun r w' => RetI r ∧ w' = w := by
  cases d1 : Op.bytesLess s.toList t.toList <;> cases d2 : (s.toList == t.toList) <;>
  · go_enter Tryz.func105, Tryz.ntmps105
    go_wp2
    go_ret
    exact ⟨⟨_, rfl⟩, rfl⟩
theorem cyclic6 (v : Value) (L : List Int) (w : World) (h : Is w v L) (i : Nat) (hi : i < L.length) : Calls Tryz.prog 86 #[v, .int .i64 i] w fun r w' => RetB r ∧ w' = w := by
  obtain ⟨A, c, rfl, hnc, hcm, hR⟩ := h
  have hn := lim_of hnc hcm
  obtain ⟨n, hnl⟩ : ∃ n, n = L.length := ⟨_, rfl⟩
  rw [← hnl]
  have hlc : n ≤ c := hnl ▸ hnc
  have hn : n ≤ 9223372036854775807 := hnl ▸ hn
  clear hnc
  have HL := Lib.hid hnl
  clear hnl
  have HR := Lib.hid hR
  clear hR
  go_enter Tryz.func86, Tryz.ntmps86
  go_wp2
  go_loopg [5, 9] n (fun q u v w' => ∃ k : Nat, ∃ p : Nat, k + q = n ∧ p < n ∧ u = .int .i64 p ∧ v = .int .i64 k ∧ w' = w)
  case atStart => exact ⟨0, i, by omega, by have := HL.out; omega, rfl, rfl, rfl⟩
  case round =>
    obtain ⟨k, p, hk, hp, rfl, rfl, rfl⟩ := hrel
    by_cases hlt : k < n
    · obtain ⟨a, r, rfl, ⟨rfl, h3⟩, hA⟩ := HR.out p _ (List.getElem?_eq_getElem (by have := HL.out; omega))
      generalize L[p]'(by have := HL.out; omega) = z at *
      have p0 : (0 : Int) ≤ p := by omega
      have p1 : decide ((p : Int) < n) = true := by simpa using hp
      have p2 : decide ((k : Int) < n) = true := by simpa using hlt
      have e1 := hA.c0
      rw [Nat.mul_one] at e1
      by_cases hz : z < 0
      · have d1 : decide (z < 0) = true := by simpa using hz
        go_wp2
        go_ret
        exact ⟨⟨_, rfl⟩, rfl⟩
      · have d1 : decide (z < 0) = false := by simpa using hz
        by_cases hz2 : (n : Int) ≤ z
        · have d2 : decide ((n : Int) ≤ z) = true := by simpa using hz2
          go_wp2
          go_ret
          exact ⟨⟨_, rfl⟩, rfl⟩
        · have d2 : decide ((n : Int) ≤ z) = false := by simpa using hz2
          cases d3 : (z == (i : Int)) with
          | true =>
            go_wp2
            go_ret
            exact ⟨⟨_, rfl⟩, rfl⟩
          | false =>
            go_wp2
            go_roundg (gk - 1)
            case measure => omega
            case rel =>
              obtain ⟨p', rfl⟩ := Int.eq_ofNat_of_zero_le (a := z) (by omega)
              exact ⟨k + 1, p', by omega, by omega, rfl, rfl, rfl⟩
    · have p1 : decide ((k : Int) < n) = false := by simpa using hlt
      go_wp2
      go_ret
      exact ⟨⟨_, rfl⟩, rfl⟩
theorem bare6 (v u : Value) (L : List Int) (S : List ByteArray) (w : World) (h : Is w v L) (h2 : Ss w u S) (hl : L.length = S.length) : Calls Tryz.prog 84 #[v, u] w fun r w' => RetB r ∧ w' = w := by
  obtain ⟨A, c, rfl, hnc, hcm, hR⟩ := h
  obtain ⟨A2, c2, rfl, _, _, hR2⟩ := h2
  have hn := lim_of hnc hcm
  rw [← hl]
  obtain ⟨n, hnl⟩ : ∃ n, n = L.length := ⟨_, rfl⟩
  rw [← hnl]
  have hlc : n ≤ c := hnl ▸ hnc
  have hn : n ≤ 9223372036854775807 := hnl ▸ hn
  clear hnc
  have HL := Lib.hid hnl
  clear hnl
  have HR := Lib.hid hR
  have HR2 := Lib.hid hR2
  clear hR hR2
  go_enter Tryz.func84, Tryz.ntmps84
  go_wp2
  go_loopg [8] n (fun q v w' => ∃ k : Nat, k + q = n ∧ v = .int .i64 k ∧ w' = w)
  case atStart => exact ⟨0, by omega, rfl, rfl⟩
  case round =>
    obtain ⟨p, hk, rfl, rfl⟩ := hrel
    by_cases hlt : p < n
    · obtain ⟨a, r, rfl, ⟨rfl, h3⟩, hA⟩ := HR.out p _ (List.getElem?_eq_getElem (by have := HL.out; omega))
      obtain ⟨a2, r2, rfl, ⟨rfl, h4⟩, hA2⟩ := HR2.out p _ (List.getElem?_eq_getElem (by have := HL.out; omega))
      generalize L[p]'(by have := HL.out; omega) = z at *
      generalize S[p]'(by have := HL.out; omega) = s at *
      have p0 : (0 : Int) ≤ p := by omega
      have p1 : decide ((p : Int) < n) = true := by simpa using hlt
      have e1 := hA.c0
      have e2 := hA2.c0
      rw [Nat.mul_one] at e1 e2
      cases d1 : (z != -1) with
      | true =>
        go_wp2
        go_ret
        exact ⟨⟨_, rfl⟩, rfl⟩
      | false =>
        cases d2 : (!s.toList.isEmpty) with
        | true =>
          go_wp2
          go_ret
          exact ⟨⟨_, rfl⟩, rfl⟩
        | false =>
          go_wp2
          go_roundg (gk - 1)
          case measure => omega
          case rel => exact ⟨p + 1, by omega, rfl, rfl⟩
    · have p1 : decide ((p : Int) < n) = false := by simpa using hlt
      go_wp2
      go_ret
      exact ⟨⟨_, rfl⟩, rfl⟩
end Go.Proofs.YthjcmodhleoocaaGreatDoor.Z
/- ZWthn -/
namespace Go.Proofs.YthjcmodhleoocaaGreatDoor.Z
open Go Go.RowKit Go.Lib
set_option linter.unusedVariables false
set_option linter.unusedSimpArgs false
/-- A text holds an interval. -/
def hldB (b e : Int) (u : Tx) : Bool := decide (u.b ≤ b) && (decide (b < e) && decide (e ≤ u.e))
set_option maxRecDepth 100000 in
set_option maxHeartbeats 4000000 in
theorem within6 (w : World) (a t x r k h l : Value) (T : List Tx) (hx : Txs w x T) (b e : Int) :
    Calls Tryz.prog 82 #[.agg #[a, t, x, r, k, h, l], .int .i64 b, .int .i64 e] w fun z w' => z = .returned (.bool (T.any (hldB b e))) ∧ Below w.heap.size w w' := by
  obtain ⟨A, c, rfl, hnc, hcm, hR⟩ := hx
  have hn := lim_of hnc hcm
  obtain ⟨n, hnl⟩ : ∃ n, n = T.length := ⟨_, rfl⟩
  rw [← hnl]
  have hlc : n ≤ c := hnl ▸ hnc
  have hn : n ≤ 9223372036854775807 := hnl ▸ hn
  clear hnc
  have HL := Lib.hid hnl
  clear hnl
  have HR := Lib.hid hR
  clear hR
  have H0 := Bx.new w #[a, t, .slice A n c, r, k, h, l] 30
  go_enter Tryz.func82, Tryz.ntmps82
  go_wp2_with fail
  obtain ⟨cb, hcb⟩ : ∃ cb, cb = w.heap.size := ⟨_, rfl⟩
  rw [← hcb]
  rw [← hcb] at H0
  clear hcb
  generalize w.alloc (.cells #[a, t, .slice A n c, r, k, h, l] 30) = w1 at *
  go_loopg [12] n (fun q v w' => ∃ i : Nat, i + q = n ∧ v = .int .i64 i ∧ Aside (Bx w w' cb #[a, t, .slice A n c, r, k, h, l] 30) ∧ Aside (∀ j u, j < i → T[j]? = some u → hldB b e u = false))
  case atStart => exact ⟨0, by omega, rfl, ⟨H0⟩, ⟨fun j u hj => by omega⟩⟩
  case round =>
    obtain ⟨i, hi, rfl, HX, HF⟩ := hrel
    have HX := Lib.hid HX.out
    by_cases hlt : i < n
    · have hTi : T[i]? = some (T[i]'(by have := HL.out; omega)) := List.getElem?_eq_getElem (by have := HL.out; omega)
      obtain ⟨a2, r2, rfl, ⟨u, rfl, ⟨B, cB, rfl, hu⟩, hs, hb, he⟩, hA⟩ := HR.out i _ hTi
      obtain ⟨y, hy⟩ : ∃ y, y = T[i]'(by have := HL.out; omega) := ⟨_, rfl⟩
      rw [← hy] at hTi hA hu hs hb he
      have p0 : (0 : Int) ≤ i := by omega
      have p1 : decide ((i : Int) < n) = true := by simpa using hlt
      have hA1 := hA.below HX.out.b
      have e0 := hA1.c0
      have e1 := hA1.c1
      have e2 := hA1.c2
      have e3 := hA1.c3
      have next : hldB b e y = false → ∀ j u, j < i + 1 → T[j]? = some u → hldB b e u = false := fun h0 j u hj hu => by
        rcases Nat.lt_succ_iff_lt_or_eq.1 hj with h | rfl
        · exact HF.out j u h hu
        · rw [hTi] at hu; cases hu; exact h0
      have NX := Lib.hid next
      have HT := Lib.hid hTi
      clear hTi hy hA hu hA1 next
      cases d1 : decide (y.b ≤ b) with
      | false =>
        go_wp2
        go_roundg (gk - 1)
        case measure => omega
        case rel => exact ⟨i + 1, by omega, rfl, ⟨HX.out.alloc _⟩, ⟨NX.out (by simp [hldB, d1])⟩⟩
      | true =>
        cases d2 : decide (b < e) with
        | false =>
          go_wp2
          go_roundg (gk - 1)
          case measure => omega
          case rel => exact ⟨i + 1, by omega, rfl, ⟨HX.out.alloc _⟩, ⟨NX.out (by simp [hldB, d2])⟩⟩
        | true =>
          cases d3 : decide (e ≤ y.e) with
          | false =>
            go_wp2
            go_roundg (gk - 1)
            case measure => omega
            case rel => exact ⟨i + 1, by omega, rfl, ⟨HX.out.alloc _⟩, ⟨NX.out (by simp [hldB, d3])⟩⟩
          | true =>
            have hv : T.any (hldB b e) = true := List.any_eq_true.2 ⟨y, List.mem_of_getElem? HT.out, by simp only [hldB, d1, d2, d3, Bool.and_self]⟩
            go_wp2
            go_ret
            exact ⟨ret_b hv.symm, HX.out.b.alloc HX.out.b.size _⟩
    · have p1 : decide ((i : Int) < n) = false := by simpa using hlt
      have hv : T.any (hldB b e) = false := List.any_eq_false.2 fun u hu => by
        obtain ⟨j, hj⟩ := List.getElem?_of_mem hu
        have := (List.getElem?_eq_some_iff.1 hj).1
        rw [HF.out j u (by have := HL.out; omega) hj]; simp
      go_wp2
      go_ret
      exact ⟨ret_b hv.symm, HX.out.b⟩
set_option maxRecDepth 100000 in
set_option maxHeartbeats 4000000 in
theorem textAt6 (w : World) (a t x r k h l : Value) (T : List Tx) (hx : Txs w x T) (b : Int) :
    Calls Tryz.prog 85 #[.agg #[a, t, x, r, k, h, l], .int .i64 b] w fun z w' => RetI z ∧ Below w.heap.size w w' := by
  obtain ⟨A, c, rfl, hnc, hcm, hR⟩ := hx
  have hn := lim_of hnc hcm
  obtain ⟨n, hnl⟩ : ∃ n, n = T.length := ⟨_, rfl⟩
  rw [← hnl]
  have hlc : n ≤ c := hnl ▸ hnc
  have hn : n ≤ 9223372036854775807 := hnl ▸ hn
  clear hnc
  have HL := Lib.hid hnl
  clear hnl
  have HR := Lib.hid hR
  clear hR
  have H0 := Bx.new w #[a, t, .slice A n c, r, k, h, l] 30
  go_enter Tryz.func85, Tryz.ntmps85
  go_wp2_with fail
  obtain ⟨cb, hcb⟩ : ∃ cb, cb = w.heap.size := ⟨_, rfl⟩
  rw [← hcb]
  rw [← hcb] at H0
  clear hcb
  generalize w.alloc (.cells #[a, t, .slice A n c, r, k, h, l] 30) = w1 at *
  go_loopg [10] n (fun q v w' => ∃ i : Nat, i + q = n ∧ v = .int .i64 i ∧ Aside (Bx w w' cb #[a, t, .slice A n c, r, k, h, l] 30))
  case atStart => exact ⟨0, by omega, rfl, ⟨H0⟩⟩
  case round =>
    obtain ⟨i, hi, rfl, HX⟩ := hrel
    have HX := Lib.hid HX.out
    by_cases hlt : i < n
    · obtain ⟨a2, r2, rfl, ⟨u, rfl, ⟨B, cB, rfl, hu⟩, hs, hb, he⟩, hA⟩ := HR.out i _ (List.getElem?_eq_getElem (by have := HL.out; omega))
      generalize T[i]'(by have := HL.out; omega) = y at *
      have p0 : (0 : Int) ≤ i := by omega
      have p1 : decide ((i : Int) < n) = true := by simpa using hlt
      have hA1 := hA.below HX.out.b
      have e0 := hA1.c0
      have e1 := hA1.c1
      have e2 := hA1.c2
      have e3 := hA1.c3
      clear hA hu hA1
      cases d1 : decide (y.b ≤ b) with
      | false =>
        go_wp2
        go_roundg (gk - 1)
        case measure => omega
        case rel => exact ⟨i + 1, by omega, rfl, ⟨HX.out.alloc _⟩⟩
      | true =>
        cases d2 : decide (b < y.e) with
        | false =>
          go_wp2
          go_roundg (gk - 1)
          case measure => omega
          case rel => exact ⟨i + 1, by omega, rfl, ⟨HX.out.alloc _⟩⟩
        | true =>
          go_wp2
          go_ret
          exact ⟨⟨_, rfl⟩, HX.out.b.alloc HX.out.b.size _⟩
    · have p1 : decide ((i : Int) < n) = false := by simpa using hlt
      go_wp2
      go_ret
      exact ⟨⟨_, rfl⟩, HX.out.b⟩
end Go.Proofs.YthjcmodhleoocaaGreatDoor.Z
/- ZNd -/
namespace Go.Proofs.YthjcmodhleoocaaGreatDoor.Z
open Go.Proofs.YthjcmodhleoocaaGreatDoor.TP
def psOf (N : List Nd) : List Int := N.map (·.p)
theorem rdi_ps {N : List Nd} {i : Nat} {x : Nd} (h : N[i]? = some x) : rdi (psOf N) (i : Int) = x.p := by
  unfold rdi psOf
  rw [Int.toNat_natCast, List.getD_eq_getElem?_getD, List.getElem?_map, h]
  rfl
structure NdAt (N : List Nd) (Z : List Tx) (D : Nat → Int) (i : Nat) (x : Nd) : Prop where
  nm : nmB x.nm = true
  win : Z.any (hldB x.b x.e) = true
  ch : ∃ m, up (psOf N) m ((i : Int) - 1) = x.p
  nest : ∀ y, 0 ≤ x.p → N[x.p.toNat]? = some y → y.b ≤ x.b ∧ x.e ≤ y.e
  sib : ∀ s y, s < i → N[s]? = some y → y.p = x.p → (∀ s' y', s < s' → s' < i → N[s']? = some y' → y'.p ≠ x.p) → y.e ≤ x.b
  dep : D i = (if 0 ≤ x.p then D x.p.toNat else 0) + 1
  lim : D i ≤ 40
  nn : 0 ≤ D i
def NdOk (N : List Nd) (Z : List Tx) (D : Nat → Int) (n : Nat) : Prop := ∀ i x, i < n → N[i]? = some x → NdAt N Z D i x
theorem NdOk.rng {N : List Nd} {Z : List Tx} {D : Nat → Int} {n : Nat} (h : NdOk N Z D n) (hn : n ≤ N.length) : ∀ (j : Nat), j < n → -1 ≤ rdi (psOf N) (j : Int) ∧ rdi (psOf N) (j : Int) < j := by
  intro j
  induction j using Nat.strongRecOn with
  | _ j ih =>
    intro hj
    have hx : N[j]? = some (N[j]'(by omega)) := List.getElem?_eq_getElem (by omega)
    obtain ⟨m, hm⟩ := (h j _ hj hx).ch
    rw [rdi_ps hx, ← hm]
    have key : ∀ m, -1 ≤ up (psOf N) m ((j : Int) - 1) ∧ up (psOf N) m ((j : Int) - 1) < j := by
      intro m
      induction m with
      | zero => exact ⟨by show -1 ≤ (j : Int) - 1; omega, by show (j : Int) - 1 < j; omega⟩
      | succ m ihm =>
        rw [up_out]
        rcases Int.lt_or_le (up (psOf N) m ((j : Int) - 1)) 0 with h0 | h0
        · rw [stp_neg h0]; exact ihm
        · rw [stp_nn h0]
          obtain ⟨k, hk⟩ := Int.eq_ofNat_of_zero_le h0
          rw [hk] at ihm ⊢
          have := ih k (by omega) (by omega)
          omega
    exact key m
/-- One node more. -/
theorem NdOk.step {N : List Nd} {Z : List Tx} {D : Nat → Int} {i : Nat} {x : Nd} {v : Int} (h : NdOk N Z D i) (hx : N[i]? = some x) (nm : nmB x.nm = true) (win : Z.any (hldB x.b x.e) = true) (ch : ∃ m, up (psOf N) m ((i : Int) - 1) = x.p)
    (nest : ∀ y, 0 ≤ x.p → N[x.p.toNat]? = some y → y.b ≤ x.b ∧ x.e ≤ y.e)
    (sib : ∀ s y, s < i → N[s]? = some y → y.p = x.p → (∀ s' y', s < s' → s' < i → N[s']? = some y' → y'.p ≠ x.p) → y.e ≤ x.b)
    (hp : x.p < i) (hv : v = (if 0 ≤ x.p then D x.p.toNat else 0)) (hl : v + 1 ≤ 40) (hn : 0 ≤ v) : NdOk N Z (fun j => if j = i then v + 1 else D j) (i + 1) := by
  have hil : i ≤ N.length := by have := (List.getElem?_eq_some_iff.1 hx).1; omega
  intro j y hj hy
  by_cases e : j = i
  · subst e
    rw [hx] at hy; cases hy
    refine ⟨nm, win, ch, nest, sib, ?_, by simpa using hl, by simp; omega⟩
    simp only [if_true]
    rw [hv]
    by_cases h0 : 0 ≤ x.p
    · rw [if_pos h0, if_pos h0, if_neg (by omega)]
    · rw [if_neg h0, if_neg h0]
  · have hjl : j < i := by omega
    have a := h j y hjl hy
    have r := h.rng hil j hjl
    rw [rdi_ps hy] at r
    refine ⟨a.nm, a.win, a.ch, a.nest, a.sib, ?_, by simp only [if_neg e]; exact a.lim, by simp only [if_neg e]; exact a.nn⟩
    simp only [if_neg e]
    rw [a.dep]
    by_cases h0 : 0 ≤ y.p
    · rw [if_pos h0, if_pos h0, if_neg (by omega)]
    · rw [if_neg h0, if_neg h0]
end Go.Proofs.YthjcmodhleoocaaGreatDoor.Z
