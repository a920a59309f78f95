/- The law TreelabelHeads answers true for every input, and each argument reads behind the call as it read before. (Part 1.) -/
import Derived.Test.YthjcmodhleoocaaProg
import Derived.Below
import Derived.Deep.Draws
import Derived.Deep.AppendLies
import Derived.Maps.AppendAt
import Derived.OwnWalk
import Derived.Laws.BytesArg
import Derived.Laws.MakeOwn
import Derived.Laws.OwnMore
import Derived.Deep.OwnRows
import Derived.Tactics
import Derived.Lib.ConvBytes
import Derived.Laws.Slices
import Derived.WalkKit
import Derived.KernelRfl
import Derived.RowKit3
import Derived.Deep.LoopGhost
import Derived.Deep.QuietTactic
import Derived.BigQuiet
import Derived.WideLaws
import Derived.Deep.DeepCutAuto
import Derived.Deep.CutBlock
import Derived.Deep.RegionHeld3
import Derived.Laws.Rows
import Derived.Lib.AppendStr
import Derived.ArgAppend
import Derived.Laws.IdiomCopy
import Derived.OrdersHeld
import Derived.Laws.BitsLemmas
import Derived.RowKit
import Derived.Test.YthjcmodhleoocaaWWords
import Derived.Test.YthjcmodhleoocaaWLast
import Derived.Test.YthjcmodhleoocaaWTab
import Derived.Test.YthjcmodhleoocaaWFour
import Derived.Test.YthjcmodhleoocaaWQPut
import Derived.Test.YthjcmodhleoocaaWApart
import Derived.Test.YthjcmodhleoocaaWArr
import Derived.Test.YthjcmodhleoocaaWZeros
import Derived.Test.YthjcmodhleoocaaWFoot
import Derived.Test.YthjcmodhleoocaaWKept
import Derived.Test.YthjcmodhleoocaaWShare
import Derived.Test.YthjcmodhleoocaaWN
import Derived.Test.YthjcmodhleoocaaWFootNe
import Derived.Test.YthjcmodhleoocaaWAt
import Derived.Test.YthjcmodhleoocaaWEqStruct
import Derived.Test.YthjcmodhleoocaaWRepsOne
import Derived.Test.YthjcmodhleoocaaWGuard
import Derived.Test.YthjcmodhleoocaaWNEv
import Derived.Test.YthjcmodhleoocaaWMore
import Derived.Handy
set_option linter.unusedVariables false
set_option linter.unusedSimpArgs false
set_option linter.unusedSectionVars false
/- QBase -/
namespace Go.Proofs.Ythjcmodhleoocaa.Q
open Go.RowKit Go.Proofs.YthjcmodhleoocaaW.PrintWords Go.Proofs.YthjcmodhleoocaaW.PrintLast Go.Proofs.YthjcmodhleoocaaW.PrintMore
attribute [local go_sem] max2_int min2_int max_two min_two max_three min_three max_four min_four   -- for this text's walks alone
set_option linter.unusedVariables false
set_option linter.unusedSimpArgs false



def errW : Option Int → Value
  | none => .nilIface
  | some c => .iface 0 (.int .i64 c)
theorem errW_none : errW none = .nilIface := rfl
theorem errW_some (c : Int) : errW (some c) = .iface 0 (.int .i64 c) := rfl

theorem info3 : (Try.prog.info? 3).map (fun i => (i.zero, i.size, i.bytes)) = some (some (.int .i64 0), 1, 8) := by kernel_rfl
theorem info4 : (Try.prog.info? 4).map (fun i => (i.zero, i.size, i.bytes)) = some (some (.bool false), 1, 1) := by kernel_rfl
theorem info22 : (Try.prog.info? 22).map (fun i => (i.zero, i.size, i.bytes)) = some (some (.slice none 0 0), 1, 24) := by kernel_rfl
theorem info41 : (Try.prog.info? 41).map (fun i => (i.zero, i.size, i.bytes)) = some (some (.agg #[(.int .i64 0), (.int .i64 0), (.int .i64 0)]), 3, 24) := by kernel_rfl
theorem info43 : (Try.prog.info? 43).map (fun i => (i.zero, i.size, i.bytes)) = some (some (.agg #[(.int .i64 0), (.int .i64 0), (.int .i64 0)]), 3, 24) := by kernel_rfl
-- the values' own types
def rd_L1 (xs : List (List Int)) (i : Int) : (List Int) := xs.getD i.toNat ([] : List Int)
theorem at_L1 {w : World} {A : Option Addr} {n : Nat} {xs : List (List Int)} (h : Kd.C (Kd.slice 3 (Kd.int .i64)) w A n xs) (i : Int) (h0 : 0 ≤ i) (h1 : i < n) : ∃ ad A0 c0, A = some ad ∧ w.cell? (ad.add i.toNat) = some (.slice A0 (rd_L1 xs i).length c0) ∧ (rd_L1 xs i).length ≤ c0 ∧ (Kd.int .i64).C w A0 (rd_L1 xs i).length (rd_L1 xs i) := by
  obtain ⟨ad, c, e, _, hK, hc0⟩ := Kd.C_get h ([] : List Int) i h0 h1
  have hc : ∀ j u, c[j]? = some u → w.cell? (ad.add (i.toNat * 1 + j)) = some u := hc0
  obtain ⟨A0, c0, rfl, l0, g0⟩ := hK
  exact ⟨ad, A0, c0, e, by have hq := hc 0 _ rfl; rwa [Nat.mul_one, Nat.add_zero] at hq, l0, g0⟩

/-! #### struct type 41 -/
structure S41 where
  f0 : Int
  f1 : Int
  f2 : Int
def z41 : S41 := ⟨(0 : Int), (0 : Int), (0 : Int)⟩
def k41 : Kd S41 := Kd.iso (Kd.pair (Kd.int .i64) (Kd.pair (Kd.int .i64) (Kd.int .i64))) (fun x : S41 => (x.f0, x.f1, x.f2))
theorem k41_open {w : World} {x : S41} {cs : List Value} (h : k41.K w x cs) : cs = [.int .i64 x.f0, .int .i64 x.f1, .int .i64 x.f2] := by
  obtain ⟨_, _, rfl, rfl, ⟨_, _, rfl, rfl, rfl⟩⟩ := h
  exact rfl
theorem k41_openM {w : World} {base : Nat} {ok : Nat → Prop} {x : S41} {cs : List Value} (h : k41.M w base ok x cs) : cs = [.int .i64 x.f0, .int .i64 x.f1, .int .i64 x.f2] := by
  obtain ⟨_, _, rfl, rfl, ⟨_, _, rfl, rfl, rfl⟩⟩ := h
  exact rfl
theorem k41_mk (w : World) (x : S41)  : k41.K w x [.int .i64 x.f0, .int .i64 x.f1, .int .i64 x.f2] := ⟨[.int .i64 x.f0], [.int .i64 x.f1, .int .i64 x.f2], rfl, rfl, ⟨[.int .i64 x.f1], [.int .i64 x.f2], rfl, rfl, rfl⟩⟩
theorem k41_mkM (w : World) (base : Nat) (ok : Nat → Prop) (x : S41)  : k41.M w base ok x [.int .i64 x.f0, .int .i64 x.f1, .int .i64 x.f2] := ⟨[.int .i64 x.f0], [.int .i64 x.f1, .int .i64 x.f2], rfl, rfl, ⟨[.int .i64 x.f1], [.int .i64 x.f2], rfl, rfl, rfl⟩⟩
def rd_T41 (xs : List S41) (i : Int) : S41 := xs.getD i.toNat z41
theorem at_T41 {w : World} {A : Option Addr} {n : Nat} {xs : List S41} (h : Kd.C k41 w A n xs) (i : Int) (h0 : 0 ≤ i) (h1 : i < n) : ∃ ad , A = some ad ∧ w.cell? (ad.add (i.toNat * 3)) = some (.int .i64 (rd_T41 xs i).f0) ∧ w.cell? ⟨(ad.add (i.toNat * 3)).block, (ad.add (i.toNat * 3)).off + 1, none⟩ = some (.int .i64 (rd_T41 xs i).f1) ∧ w.cell? ⟨(ad.add (i.toNat * 3)).block, (ad.add (i.toNat * 3)).off + 2, none⟩ = some (.int .i64 (rd_T41 xs i).f2) := by
  obtain ⟨ad, c, e, _, hK, hc0⟩ := Kd.C_get h z41 i h0 h1
  have hc : ∀ j u, c[j]? = some u → w.cell? (ad.add (i.toNat * 3 + j)) = some u := hc0
  obtain rfl := k41_open hK
  exact ⟨ad, e, hc 0 _ rfl, by rw [← add_field _ _ 1 (by omega)]; exact hc 1 _ rfl, by rw [← add_field _ _ 2 (by omega)]; exact hc 2 _ rfl⟩

/-! #### struct type 43 -/
structure S43 where
  f0 : Int
  f1 : Int
  f2 : Int
def z43 : S43 := ⟨(0 : Int), (0 : Int), (0 : Int)⟩
def k43 : Kd S43 := Kd.iso (Kd.pair (Kd.int .i64) (Kd.pair (Kd.int .i64) (Kd.int .i64))) (fun x : S43 => (x.f0, x.f1, x.f2))
theorem k43_open {w : World} {x : S43} {cs : List Value} (h : k43.K w x cs) : cs = [.int .i64 x.f0, .int .i64 x.f1, .int .i64 x.f2] := by
  obtain ⟨_, _, rfl, rfl, ⟨_, _, rfl, rfl, rfl⟩⟩ := h
  exact rfl
theorem k43_openM {w : World} {base : Nat} {ok : Nat → Prop} {x : S43} {cs : List Value} (h : k43.M w base ok x cs) : cs = [.int .i64 x.f0, .int .i64 x.f1, .int .i64 x.f2] := by
  obtain ⟨_, _, rfl, rfl, ⟨_, _, rfl, rfl, rfl⟩⟩ := h
  exact rfl
theorem k43_mk (w : World) (x : S43)  : k43.K w x [.int .i64 x.f0, .int .i64 x.f1, .int .i64 x.f2] := ⟨[.int .i64 x.f0], [.int .i64 x.f1, .int .i64 x.f2], rfl, rfl, ⟨[.int .i64 x.f1], [.int .i64 x.f2], rfl, rfl, rfl⟩⟩
theorem k43_mkM (w : World) (base : Nat) (ok : Nat → Prop) (x : S43)  : k43.M w base ok x [.int .i64 x.f0, .int .i64 x.f1, .int .i64 x.f2] := ⟨[.int .i64 x.f0], [.int .i64 x.f1, .int .i64 x.f2], rfl, rfl, ⟨[.int .i64 x.f1], [.int .i64 x.f2], rfl, rfl, rfl⟩⟩
def rd_T43 (xs : List S43) (i : Int) : S43 := xs.getD i.toNat z43
theorem at_T43 {w : World} {A : Option Addr} {n : Nat} {xs : List S43} (h : Kd.C k43 w A n xs) (i : Int) (h0 : 0 ≤ i) (h1 : i < n) : ∃ ad , A = some ad ∧ w.cell? (ad.add (i.toNat * 3)) = some (.int .i64 (rd_T43 xs i).f0) ∧ w.cell? ⟨(ad.add (i.toNat * 3)).block, (ad.add (i.toNat * 3)).off + 1, none⟩ = some (.int .i64 (rd_T43 xs i).f1) ∧ w.cell? ⟨(ad.add (i.toNat * 3)).block, (ad.add (i.toNat * 3)).off + 2, none⟩ = some (.int .i64 (rd_T43 xs i).f2) := by
  obtain ⟨ad, c, e, _, hK, hc0⟩ := Kd.C_get h z43 i h0 h1
  have hc : ∀ j u, c[j]? = some u → w.cell? (ad.add (i.toNat * 3 + j)) = some u := hc0
  obtain rfl := k43_open hK
  exact ⟨ad, e, hc 0 _ rfl, by rw [← add_field _ _ 1 (by omega)]; exact hc 1 _ rfl, by rw [← add_field _ _ 2 (by omega)]; exact hc 2 _ rfl⟩

end Go.Proofs.Ythjcmodhleoocaa.Q
/- Short -/
namespace Go.Proofs.Ythjcmodhleoocaa.Q
open Go.RowKit Go.Proofs.YthjcmodhleoocaaW.PrintWords Go.Proofs.YthjcmodhleoocaaW.PrintLast
set_option linter.unusedVariables false
section
variable {P : Program} {ops : Array Oper} {Q : Exit → Act → World → Prop} {md : Region.Mode} {S : World → Prop} {ds : List Nat} {T : Bool × List (List Nat × List Nat)}
/-- A wanted operation that yields in every world. -/
theorem pw_ (i : Nat) (N : Tmp) {oi : Oper} {v : Value} {fuel : Nat} {l l' : Array Bool} {a a' : Act} {w : World} (HT_ : rtab md ops = T)
    (hl : l.setIfInBounds i true = l' := by simp only [List.setIfInBounds_toArray, List.set_cons_zero, List.set_cons_succ]; rfl)
    (hi : ops[i]? = some oi := by rfl) (hN : oi.dst = some N := by rfl) (hc : anyT T l.toList l'.toList i = true := by kernel_rfl)
    (hQ : ∀ c a w, Q (.panic c) (a.put oi.dst v) w → Q (.panic c) a w := by exact fun _ _ _ h => h) (hw : Region.wanted oi (yielded ops a.tmps) = true := by rfl)
    (hy : ∀ w', (execOp a.eval oi).run P w' = .ok (.value v) w' := by intro w'; go_simp; with_reducible rfl)
    (ha : a.put (some N) v = a' := by simp only [Act.put, List.setIfInBounds_toArray, List.set_cons_zero, List.set_cons_succ, i64_w, i32_w]; rfl)
    (h : wpAnyLast P md ops Q S ds fuel l' a' w) : wpAnyLast P md ops Q S ds (fuel + 1) l a w :=
  pure_ l' hi hN (any_of HT_ hc) hQ (Or.inl ⟨hw, hy⟩) ha h
/-- An operation that is not wanted. -/
theorem pn_ (i : Nat) (N : Tmp) {oi : Oper} {fuel : Nat} {l l' : Array Bool} {a a' : Act} {w : World} (HT_ : rtab md ops = T)
    (hl : l.setIfInBounds i true = l' := by simp only [List.setIfInBounds_toArray, List.set_cons_zero, List.set_cons_succ]; rfl)
    (hi : ops[i]? = some oi := by rfl) (hN : oi.dst = some N := by rfl) (hc : anyT T l.toList l'.toList i = true := by kernel_rfl)
    (hQ : ∀ c a w, Q (.panic c) (a.put oi.dst undef) w → Q (.panic c) a w := by exact fun _ _ _ h => h) (hw : Region.wanted oi (yielded ops a.tmps) = false := by rfl)
    (ha : a.put (some N) undef = a' := by simp only [Act.put, List.setIfInBounds_toArray, List.set_cons_zero, List.set_cons_succ, i64_w, i32_w]; rfl)
    (h : wpAnyLast P md ops Q S ds fuel l' a' w) : wpAnyLast P md ops Q S ds (fuel + 1) l a w :=
  pure_ l' hi hN (any_of HT_ hc) hQ (Or.inr ⟨hw, rfl⟩) ha h
end
end Go.Proofs.Ythjcmodhleoocaa.Q
/- TPure -/
namespace Go.Proofs.Ythjcmodhleoocaa.TP

/-- A node's label: its places in preorder and in postorder, its depth. -/
structure Lab where
  pre : Nat
  post : Nat
  dep : Nat
deriving DecidableEq, Inhabited

/-- The state of the numbering. -/
structure NS where
  L : List Lab
  pre : Nat
  post : Nat

def enter (i d : Nat) (s : NS) : NS := ⟨s.L.modify i (fun x => { x with pre := s.pre, dep := d }), s.pre + 1, s.post⟩
def leave (i : Nat) (s : NS) : NS := ⟨s.L.modify i (fun x => { x with post := s.post }), s.pre, s.post + 1⟩

/-- A node and the trees of its children; k: how many levels at most. -/
def vis (kd : Nat → List Nat) : Nat → Nat → Nat → NS → Option NS
  | 0, _, _, _ => none
  | k + 1, i, d, s => if i < s.L.length then ((kd i).foldlM (fun s c => vis kd k c (d + 1) s) (enter i d s)).map (leave i) else none

theorem enter_len (i d : Nat) (s : NS) : (enter i d s).L.length = s.L.length := by simp [enter]
theorem leave_len (i : Nat) (s : NS) : (leave i s).L.length = s.L.length := by simp [leave]

/-- What the numbering only raises or keeps. -/
def Up (s t : NS) : Prop := t.L.length = s.L.length ∧ s.pre ≤ t.pre ∧ s.post ≤ t.post ∧ t.pre - s.pre = t.post - s.post
theorem Up.refl (s : NS) : Up s s := ⟨rfl, Nat.le_refl _, Nat.le_refl _, by omega⟩
theorem Up.trans {a b c : NS} (h : Up a b) (k : Up b c) : Up a c := ⟨k.1.trans h.1, by have := h.2.1; have := k.2.1; omega, by have := h.2.2.1; have := k.2.2.1; omega, by have := h.2; have := k.2; omega⟩

theorem fold_up {kd : Nat → List Nat} {k d : Nat} (ih : ∀ i d s t, vis kd k i d s = some t → Up s t) : ∀ (l : List Nat) (s t : NS), l.foldlM (fun s c => vis kd k c d s) s = some t → Up s t := by
  intro l
  induction l with
  | nil => intro s t h; obtain rfl := Option.some.inj h; exact Up.refl _
  | cons c l ihl =>
    intro s t h
    rw [List.foldlM_cons] at h
    cases hv : vis kd k c d s with
    | none => rw [hv] at h; cases h
    | some m => rw [hv] at h; exact (ih _ _ _ _ hv).trans (ihl _ _ h)

theorem vis_up {kd : Nat → List Nat} (k : Nat) : ∀ i d s t, vis kd k i d s = some t → Up s t := by
  induction k with
  | zero => intro i d s t h; cases h
  | succ k ih =>
    intro i d s t h
    simp only [vis] at h
    split at h
    · cases hf : (kd i).foldlM (fun s c => vis kd k c (d + 1) s) (enter i d s) with
      | none => rw [hf] at h; cases h
      | some m =>
        rw [hf] at h
        obtain rfl := Option.some.inj h
        have h1 := fold_up ih _ _ _ hf
        obtain ⟨a, b, c, e⟩ := h1
        rw [enter_len] at a
        exact ⟨by rw [leave_len, a], by simp only [enter] at b; simp only [leave]; omega, by simp only [enter] at c; simp only [leave]; omega, by simp only [enter] at b c e; simp only [leave]; omega⟩
    · cases h

theorem fold_part {kd : Nat → List Nat} {k d : Nat} (l : List Nat) (j : Nat) (hj : j < l.length) {s t : NS} (h : (l.drop j).foldlM (fun s c => vis kd k c d s) s = some t) :
    ∃ m, vis kd k l[j] d s = some m ∧ (l.drop (j + 1)).foldlM (fun s c => vis kd k c d s) m = some t := by
  rw [List.drop_eq_getElem_cons hj, List.foldlM_cons] at h
  cases hv : vis kd k l[j] d s with
  | none => rw [hv] at h; cases h
  | some m => rw [hv] at h; exact ⟨m, rfl, h⟩

/-- The children of p, from index j on. -/
def kidsFrom (ps : List Int) (p : Int) (j : Nat) : List Nat := (List.range' j (ps.length - j)).filter (fun i => ps.getD i 0 == p)
/-- The children of a node (or, for -1, the roots), in order. -/
def kidsOf (ps : List Int) (p : Int) : List Nat := kidsFrom ps p 0
theorem kidsFrom_end (ps : List Int) (p : Int) (j : Nat) (h : ps.length ≤ j) : kidsFrom ps p j = [] := by
  unfold kidsFrom; rw [Nat.sub_eq_zero_of_le h]; rfl
theorem kidsFrom_hit (ps : List Int) (p : Int) (j : Nat) (h : j < ps.length) (e : ps.getD j 0 = p) : kidsFrom ps p j = j :: kidsFrom ps p (j + 1) := by
  unfold kidsFrom
  obtain ⟨m, hm⟩ : ∃ m, ps.length - j = m + 1 := ⟨ps.length - j - 1, by omega⟩
  rw [hm, show ps.length - (j + 1) = m from by omega, List.range'_succ, List.filter_cons, if_pos (beq_iff_eq.2 e)]
theorem kidsFrom_miss (ps : List Int) (p : Int) (j : Nat) (h : j < ps.length) (e : ¬ ps.getD j 0 = p) : kidsFrom ps p j = kidsFrom ps p (j + 1) := by
  unfold kidsFrom
  obtain ⟨m, hm⟩ : ∃ m, ps.length - j = m + 1 := ⟨ps.length - j - 1, by omega⟩
  rw [hm, show ps.length - (j + 1) = m from by omega, List.range'_succ, List.filter_cons, if_neg (by rw [beq_iff_eq]; exact e)]
theorem mem_kidsOf {ps : List Int} {p : Int} {i : Nat} : i ∈ kidsOf ps p ↔ i < ps.length ∧ ps.getD i 0 = p := by
  simp [kidsOf, kidsFrom, List.mem_filter, List.mem_range'_1]
theorem kidsOf_length (ps : List Int) (p : Int) : (kidsOf ps p).length ≤ ps.length := by
  have := List.length_filter_le (fun i => ps.getD i 0 == p) (List.range' 0 (ps.length - 0))
  simp [kidsOf, kidsFrom] at *; omega
/-- The forest's numbering of a list of parents. -/
def kd (ps : List Int) (i : Nat) : List Nat := kidsOf ps (i : Int)
def visL (ps : List Int) (k : Nat) (l : List Nat) (d : Nat) (s : NS) : Option NS := l.foldlM (fun s c => vis (kd ps) k c d s) s
theorem vis_succ (ps : List Int) (k i d : Nat) (s : NS) : vis (kd ps) (k + 1) i d s = if i < s.L.length then (visL ps k (kd ps i) (d + 1) (enter i d s)).map (leave i) else none := rfl
theorem visL_cons (ps : List Int) (k c : Nat) (l : List Nat) (d : Nat) (s : NS) : visL ps k (c :: l) d s = (vis (kd ps) k c d s).bind (visL ps k l d) := by
  unfold visL; rw [List.foldlM_cons]; rfl
theorem visL_nil (ps : List Int) (k d : Nat) (s : NS) : visL ps k [] d s = some s := rfl
theorem visL_up {ps : List Int} {k d : Nat} (l : List Nat) (s t : NS) (h : visL ps k l d s = some t) : Up s t := fold_up (vis_up k) l s t h
/-- So many levels at most. -/
def lim (k : Nat) : Nat := min k 1000000
theorem lim_le (k : Nat) : lim k ≤ 1000000 := Nat.min_le_right _ _
theorem lim_of {k : Nat} (h : k ≤ 1000000) : lim k = k := Nat.min_eq_left h
theorem lim_step (k : Nat) : lim (k + 1) = lim k ∨ lim (k + 1) = lim k + 1 := by unfold lim; omega

theorem fold_more {kd : Nat → List Nat} {k d : Nat} (ih : ∀ i d s t, vis kd k i d s = some t → vis kd (k + 1) i d s = some t) : ∀ (l : List Nat) (s t : NS), l.foldlM (fun s c => vis kd k c d s) s = some t → l.foldlM (fun s c => vis kd (k + 1) c d s) s = some t := by
  intro l
  induction l with
  | nil => intro s t h; exact h
  | cons c l ihl =>
    intro s t h
    rw [List.foldlM_cons] at h ⊢
    cases hv : vis kd k c d s with
    | none => rw [hv] at h; cases h
    | some m =>
      rw [hv] at h
      rw [ih _ _ _ _ hv]
      exact ihl _ _ h
/-- More levels: the same answer. -/
theorem vis_more {kd : Nat → List Nat} (k : Nat) : ∀ i d s t, vis kd k i d s = some t → vis kd (k + 1) i d s = some t := by
  induction k with
  | zero => intro i d s t h; cases h
  | succ k ih =>
    intro i d s t h
    rw [vis] at h ⊢
    split at h
    · rename_i hi
      rw [if_pos hi]
      cases hf : (kd i).foldlM (fun s c => vis kd k c (d + 1) s) (enter i d s) with
      | none => rw [hf] at h; cases h
      | some m =>
        rw [hf] at h
        rw [fold_more ih _ _ _ hf]
        exact h
    · cases h
theorem fold_lim {kd : Nat → List Nat} {k d : Nat} {l : List Nat} {s t : NS} (h : l.foldlM (fun s c => vis kd (lim k) c d s) s = some t) : l.foldlM (fun s c => vis kd (lim (k + 1)) c d s) s = some t := by
  rcases lim_step k with e | e
  · rw [e]; exact h
  · rw [e]; exact fold_more (vis_more _) _ _ _ h
theorem visL_lim {ps : List Int} {k d : Nat} {l : List Nat} {s t : NS} (h : visL ps (lim k) l d s = some t) : visL ps (lim (k + 1)) l d s = some t := fold_lim h
end Go.Proofs.Ythjcmodhleoocaa.TP
/- State -/
namespace Go.Proofs.Ythjcmodhleoocaa.Q
open Go.RowKit Go.Proofs.YthjcmodhleoocaaW.PrintWords Go.Proofs.YthjcmodhleoocaaW.PrintLast Go.Proofs.YthjcmodhleoocaaW.PrintMore
open Go.Proofs.Ythjcmodhleoocaa.TP

/-- The cells of a row of labels. -/
def LCells (cur : Array Value) (L : List Lab) : Prop := ∀ j x, L[j]? = some x → cur[j * 3]? = some (.int .i64 (x.pre : Int)) ∧ cur[j * 3 + 1]? = some (.int .i64 (x.post : Int)) ∧ cur[j * 3 + 2]? = some (.int .i64 (x.dep : Int))

theorem LCells.set0 {cur : Array Value} {L : List Lab} (h : LCells cur L) (i v : Nat) : LCells (cur.setIfInBounds (i * 3) (.int .i64 (v : Int))) (L.modify i (fun x => { x with pre := v })) := by
  intro j x hx
  rw [List.getElem?_modify] at hx
  by_cases e : i = j
  · subst e
    cases hl : L[i]? with
    | none => rw [hl] at hx; simp at hx
    | some y =>
      obtain ⟨a, b, c⟩ := h i y hl
      rw [hl] at hx; simp at hx; subst hx
      have hs := (Array.getElem?_eq_some_iff.1 a).1
      refine ⟨by simp [hs], ?_, ?_⟩
      · rw [Array.getElem?_setIfInBounds_ne (by omega)]; exact b
      · rw [Array.getElem?_setIfInBounds_ne (by omega)]; exact c
  · simp only [if_neg e] at hx
    obtain ⟨a, b, c⟩ := h j x (by simpa using hx)
    refine ⟨?_, ?_, ?_⟩
    · rw [Array.getElem?_setIfInBounds_ne (by omega)]; exact a
    · rw [Array.getElem?_setIfInBounds_ne (by omega)]; exact b
    · rw [Array.getElem?_setIfInBounds_ne (by omega)]; exact c
theorem LCells.set1 {cur : Array Value} {L : List Lab} (h : LCells cur L) (i v : Nat) : LCells (cur.setIfInBounds (i * 3 + 1) (.int .i64 (v : Int))) (L.modify i (fun x => { x with post := v })) := by
  intro j x hx
  rw [List.getElem?_modify] at hx
  by_cases e : i = j
  · subst e
    cases hl : L[i]? with
    | none => rw [hl] at hx; simp at hx
    | some y =>
      obtain ⟨a, b, c⟩ := h i y hl
      rw [hl] at hx; simp at hx; subst hx
      have hs := (Array.getElem?_eq_some_iff.1 b).1
      refine ⟨?_, by simp [hs], ?_⟩
      · rw [Array.getElem?_setIfInBounds_ne (by omega)]; exact a
      · rw [Array.getElem?_setIfInBounds_ne (by omega)]; exact c
  · simp only [if_neg e] at hx
    obtain ⟨a, b, c⟩ := h j x (by simpa using hx)
    refine ⟨?_, ?_, ?_⟩
    · rw [Array.getElem?_setIfInBounds_ne (by omega)]; exact a
    · rw [Array.getElem?_setIfInBounds_ne (by omega)]; exact b
    · rw [Array.getElem?_setIfInBounds_ne (by omega)]; exact c
theorem LCells.set2 {cur : Array Value} {L : List Lab} (h : LCells cur L) (i v : Nat) : LCells (cur.setIfInBounds (i * 3 + 2) (.int .i64 (v : Int))) (L.modify i (fun x => { x with dep := v })) := by
  intro j x hx
  rw [List.getElem?_modify] at hx
  by_cases e : i = j
  · subst e
    cases hl : L[i]? with
    | none => rw [hl] at hx; simp at hx
    | some y =>
      obtain ⟨a, b, c⟩ := h i y hl
      rw [hl] at hx; simp at hx; subst hx
      have hs := (Array.getElem?_eq_some_iff.1 c).1
      refine ⟨?_, ?_, by simp [hs]⟩
      · rw [Array.getElem?_setIfInBounds_ne (by omega)]; exact a
      · rw [Array.getElem?_setIfInBounds_ne (by omega)]; exact b
  · simp only [if_neg e] at hx
    obtain ⟨a, b, c⟩ := h j x (by simpa using hx)
    refine ⟨?_, ?_, ?_⟩
    · rw [Array.getElem?_setIfInBounds_ne (by omega)]; exact a
    · rw [Array.getElem?_setIfInBounds_ne (by omega)]; exact b
    · rw [Array.getElem?_setIfInBounds_ne (by omega)]; exact c

/-- World W0 has become W: only block g (the state) and block gl (the labels) may have changed. -/
structure VS (tS tL : Nat) (A0 : Value) (g gl n cap : Nat) (W0 W : World) (s : NS) : Prop where
  os : W.os = W0.os
  tape : W.tape = W0.tape
  output : W.output = W0.output
  size : W.heap.size = W0.heap.size
  keep : ∀ k, k ≠ g → k ≠ gl → W.heap[k]? = W0.heap[k]?
  st : W.heap[g]? = some (.cells #[A0, .slice (some ⟨gl, 0, none⟩) n cap, .int .i64 (s.pre : Int), .int .i64 (s.post : Int)] tS (0, 0))
  row : ∃ cur, W.heap[gl]? = some (.cells cur tL (0, 0)) ∧ LCells cur s.L ∧ cur.size = cap * 3
  ne : g ≠ gl

section
variable {tS tL : Nat} {A0 : Value} {g gl n cap : Nat} {W0 W : World} {s : NS}
theorem VS.drew (h : VS tS tL A0 g gl n cap W0 W s) : VS tS tL A0 g gl n cap W0 W.drew s := ⟨h.os, h.tape, h.output, h.size, h.keep, h.st, h.row, h.ne⟩
theorem VS.drewN (h : VS tS tL A0 g gl n cap W0 W s) (m : Nat) : VS tS tL A0 g gl n cap W0 (W.drewN m) s := ⟨h.os, h.tape, h.output, h.size, h.keep, h.st, h.row, h.ne⟩
theorem VS.far (h : VS tS tL A0 g gl n cap W0 W s) {b : Nat} (hb : b ≠ g) (hb' : b ≠ gl) {a : Addr} (e : a.block = b) : W.cell? a = W0.cell? a := World.cell?_of_block (e ▸ h.keep b hb hb')
theorem VS.cell (h : VS tS tL A0 g gl n cap W0 W s) (i : Nat) : W.cell? ⟨g, i, none⟩ = #[A0, .slice (some ⟨gl, 0, none⟩) n cap, .int .i64 (s.pre : Int), .int .i64 (s.post : Int)][i]? := blk_cell h.st i
theorem VS.free (h : VS tS tL A0 g gl n cap W0 W s) (i : Nat) : W.frozen? ⟨g, i, none⟩ = false := blk_frozen h.st i
theorem VS.lab (h : VS tS tL A0 g gl n cap W0 W s) (i : Nat) (hi : i < s.L.length) : ∃ p q d : Int, W.cell? ⟨gl, i * 3, none⟩ = some (.int .i64 p) ∧ W.cell? ⟨gl, i * 3 + 1, none⟩ = some (.int .i64 q) ∧ W.cell? ⟨gl, i * 3 + 2, none⟩ = some (.int .i64 d) := by
  obtain ⟨cur, hc, hl, _⟩ := h.row
  obtain ⟨a, b, c⟩ := hl i s.L[i] (List.getElem?_eq_getElem hi)
  exact ⟨_, _, _, (blk_cell hc _).trans a, (blk_cell hc _).trans b, (blk_cell hc _).trans c⟩
theorem VS.labfree (h : VS tS tL A0 g gl n cap W0 W s) (i : Nat) : W.frozen? ⟨gl, i, none⟩ = false := by
  obtain ⟨cur, hc, _, _⟩ := h.row
  exact blk_frozen hc i
theorem VS.enter (h : VS tS tL A0 g gl n cap W0 W s) (i d : Nat) :
    VS tS tL A0 g gl n cap W0 (((W.setCell ⟨gl, i * 3, none⟩ (.int .i64 (s.pre : Int))).setCell ⟨gl, i * 3 + 2, none⟩ (.int .i64 (d : Int))).setCell ⟨g, 2, none⟩ (.int .i64 ((s.pre : Int) + 1))) (TP.enter i d s) := by
  obtain ⟨cur, hc, hl, hsz⟩ := h.row
  refine ⟨h.os, h.tape, h.output, by simp [World.setCell, h.size], fun k a b => ?_, ?_, ?_, h.ne⟩
  · rw [Below.heap_setCell _ _ _ _ a, Below.heap_setCell _ _ _ _ b, Below.heap_setCell _ _ _ _ b]
    exact h.keep k a b
  · exact blk_put (blk_far (blk_far h.st (by exact h.ne) _) (by exact h.ne) _) 2 _ (by simp [TP.enter])
  · refine ⟨_, blk_far (blk_set (blk_set hc _ _) _ _) (by exact h.ne.symm) _, ?_⟩
    have := (hl.set0 i s.pre).set2 i d
    rw [List.modify_modify_eq] at this
    exact ⟨this, by rw [Array.size_setIfInBounds, Array.size_setIfInBounds]; exact hsz⟩
theorem VS.leave (h : VS tS tL A0 g gl n cap W0 W s) (i : Nat) :
    VS tS tL A0 g gl n cap W0 ((W.setCell ⟨gl, i * 3 + 1, none⟩ (.int .i64 (s.post : Int))).setCell ⟨g, 3, none⟩ (.int .i64 ((s.post : Int) + 1))) (TP.leave i s) := by
  obtain ⟨cur, hc, hl, hsz⟩ := h.row
  refine ⟨h.os, h.tape, h.output, by simp [World.setCell, h.size], fun k a b => ?_, ?_, ?_, h.ne⟩
  · rw [Below.heap_setCell _ _ _ _ a, Below.heap_setCell _ _ _ _ b]
    exact h.keep k a b
  · exact blk_put (blk_far h.st (by exact h.ne) _) 3 _ (by simp [TP.leave])
  · exact ⟨_, blk_far (blk_set hc _ _) (by exact h.ne.symm) _, hl.set1 i s.post, by rw [Array.size_setIfInBounds]; exact hsz⟩
end

/-- The lists of children of the nodes, each in memory that stays. -/
def Kids (W0 : World) (g gl : Nat) (Ac : Option Addr) (n : Nat) (kd : Nat → List Nat) : Prop :=
  ∀ i, i < n → ∃ bc oc, Ac = some ⟨bc, oc, none⟩ ∧ bc ≠ g ∧ bc ≠ gl ∧ ∃ Ai ci, W0.cell? ⟨bc, oc + i, none⟩ = some (.slice Ai (kd i).length ci) ∧
    ((kd i).length ≠ 0 → ∃ bi oi, Ai = some ⟨bi, oi, none⟩ ∧ bi ≠ g ∧ bi ≠ gl ∧ ∀ j (h : j < (kd i).length), W0.cell? ⟨bi, oi + j, none⟩ = some (.int .i64 ((kd i)[j] : Int)))

theorem three_at {l : List Value} {j : Nat} {a b c : Value} (h0 : l[j]? = some a) (h1 : l[j + 1]? = some b) (h2 : l[j + 2]? = some c) : (l.drop j).take 3 = [a, b, c] := by
  obtain ⟨g0, rfl⟩ := List.getElem?_eq_some_iff.1 h0
  obtain ⟨g1, rfl⟩ := List.getElem?_eq_some_iff.1 h1
  obtain ⟨g2, rfl⟩ := List.getElem?_eq_some_iff.1 h2
  rw [List.drop_eq_getElem_cons g0, List.drop_eq_getElem_cons g1, List.drop_eq_getElem_cons g2]
  rfl
theorem at_three {l : List Value} {j : Nat} {a b c : Value} (h : (l.drop j).take 3 = [a, b, c]) : l[j]? = some a ∧ l[j + 1]? = some b ∧ l[j + 2]? = some c := by
  have e : ∀ i, i < 3 → ((l.drop j).take 3)[i]? = l[j + i]? := fun i hi => by rw [List.getElem?_take_of_lt hi, List.getElem?_drop]
  rw [h] at e
  exact ⟨(e 0 (by omega)).symm, (e 1 (by omega)).symm, (e 2 (by omega)).symm⟩
theorem take_at {l : List Value} {n i : Nat} (h : i < n) : (l.take n)[i]? = l[i]? := List.getElem?_take_of_lt h

def lab41 (x : Lab) : S41 := ⟨x.pre, x.post, x.dep⟩
def lab43 (x : Lab) : S43 := ⟨x.pre, x.post, x.dep⟩
/-- The labels' row, as the value that is handed back. -/
theorem VS.result41 {tS : Nat} {A0 : Value} {g gl n cap : Nat} {W0 W : World} {s : NS} (h : VS tS 41 A0 g gl n cap W0 W s) (base : Nat) (hb : base ≤ gl) (hl : s.L.length = n) (hn : n ≤ cap) (hc : cap ≤ maxLen) :
    Kd.R k41 41 W base (fun _ => True) (.slice (some ⟨gl, 0, none⟩) n cap) (s.L.map lab41) := by
  obtain ⟨cur, hcur, hcells, hsz⟩ := h.row
  have hlen : (cur.toList.take (n * 3)).length = n * 3 := by
    rw [List.length_take, Array.length_toList, hsz]
    exact Nat.min_eq_left (Nat.mul_le_mul_right _ hn)
  refine ⟨fun _ _ => trivial, cur.toList.take (n * 3), ⟨by rw [hlen, List.length_map, hl]; rfl, .inr ⟨gl, cap, cur, by rw [List.length_map, hl], hb, hcur, by rw [List.length_map, hl]; exact hn, hc, hsz, by rw [List.length_map, hl]; rfl⟩⟩, by rw [hlen, List.length_map, hl]; rfl, fun j p hp => ?_⟩
  rw [List.getElem?_map] at hp
  cases hj : s.L[j]? with
  | none => rw [hj] at hp; cases hp
  | some x =>
    rw [hj] at hp
    obtain rfl := Option.some.inj hp
    obtain ⟨a, b, c⟩ := hcells j x hj
    have hjn : j < n := by have := (List.getElem?_eq_some_iff.1 hj).1; omega
    show k41.M _ _ _ (lab41 x) (((cur.toList.take (n * 3)).drop (j * 3)).take 3)
    rw [three_at (a := .int .i64 (x.pre : Int)) (b := .int .i64 (x.post : Int)) (c := .int .i64 (x.dep : Int)) (by rw [take_at (by omega)]; simpa using a) (by rw [take_at (by omega)]; simpa using b) (by rw [take_at (by omega)]; simpa using c)]
    exact k41_mkM _ _ _ (lab41 x)
theorem VS.result43 {tS : Nat} {A0 : Value} {g gl n cap : Nat} {W0 W : World} {s : NS} (h : VS tS 43 A0 g gl n cap W0 W s) (base : Nat) (hb : base ≤ gl) (hl : s.L.length = n) (hn : n ≤ cap) (hc : cap ≤ maxLen) :
    Kd.R k43 43 W base (fun _ => True) (.slice (some ⟨gl, 0, none⟩) n cap) (s.L.map lab43) := by
  obtain ⟨cur, hcur, hcells, hsz⟩ := h.row
  have hlen : (cur.toList.take (n * 3)).length = n * 3 := by
    rw [List.length_take, Array.length_toList, hsz]
    exact Nat.min_eq_left (Nat.mul_le_mul_right _ hn)
  refine ⟨fun _ _ => trivial, cur.toList.take (n * 3), ⟨by rw [hlen, List.length_map, hl]; rfl, .inr ⟨gl, cap, cur, by rw [List.length_map, hl], hb, hcur, by rw [List.length_map, hl]; exact hn, hc, hsz, by rw [List.length_map, hl]; rfl⟩⟩, by rw [hlen, List.length_map, hl]; rfl, fun j p hp => ?_⟩
  rw [List.getElem?_map] at hp
  cases hj : s.L[j]? with
  | none => rw [hj] at hp; cases hp
  | some x =>
    rw [hj] at hp
    obtain rfl := Option.some.inj hp
    obtain ⟨a, b, c⟩ := hcells j x hj
    have hjn : j < n := by have := (List.getElem?_eq_some_iff.1 hj).1; omega
    show k43.M _ _ _ (lab43 x) (((cur.toList.take (n * 3)).drop (j * 3)).take 3)
    rw [three_at (a := .int .i64 (x.pre : Int)) (b := .int .i64 (x.post : Int)) (c := .int .i64 (x.dep : Int)) (by rw [take_at (by omega)]; simpa using a) (by rw [take_at (by omega)]; simpa using b) (by rw [take_at (by omega)]; simpa using c)]
    exact k43_mkM _ _ _ (lab43 x)
/-- Labels that have just been made. -/
def blank (n : Nat) : NS := ⟨List.replicate n ⟨0, 0, 0⟩, 0, 0⟩
theorem cells41 {w : World} {base : Nat} {ok : Nat → Prop} {gl n cap : Nat} (hn : 0 < n) (h : Kd.R k41 41 w base ok (.slice (some ⟨gl, 0, none⟩) n cap) (List.replicate n z41)) :
    ∃ cur, w.heap[gl]? = some (.cells cur 41 (0, 0)) ∧ LCells cur (blank n).L ∧ cur.size = cap * 3 ∧ n ≤ cap ∧ cap ≤ maxLen ∧ base ≤ gl := by
  obtain ⟨_, inner, ⟨hlen, ho⟩, hr⟩ := h
  rcases ho with ⟨_, hz⟩ | ⟨g', cap', cur, he, hb, hc, hn1, hn2, hsz, htk⟩
  · rw [List.length_replicate] at hz; omega
  · injection he with e1 e2 e3
    injection e1 with e1
    injection e1 with e1
    subst e1; subst e3
    rw [List.length_replicate] at hn1 htk
    refine ⟨cur, hc, fun j x hx => ?_, hsz, hn1, hn2, hb⟩
    simp only [blank, List.getElem?_replicate] at hx
    split at hx
    · rename_i hj
      obtain rfl := Option.some.inj hx
      have hm := hr.2 j z41 (by rw [List.getElem?_replicate, if_pos hj])
      have h3 := at_three (k41_openM hm)
      have hsz3 : Kd.sz k41 = 3 := rfl
      rw [← htk, hsz3] at h3
      rw [take_at (by omega), take_at (by omega), take_at (by omega)] at h3
      simpa [z41] using h3
    · cases hx
theorem cells43 {w : World} {base : Nat} {ok : Nat → Prop} {gl n cap : Nat} (hn : 0 < n) (h : Kd.R k43 43 w base ok (.slice (some ⟨gl, 0, none⟩) n cap) (List.replicate n z43)) :
    ∃ cur, w.heap[gl]? = some (.cells cur 43 (0, 0)) ∧ LCells cur (blank n).L ∧ cur.size = cap * 3 ∧ n ≤ cap ∧ cap ≤ maxLen ∧ base ≤ gl := by
  obtain ⟨_, inner, ⟨hlen, ho⟩, hr⟩ := h
  rcases ho with ⟨_, hz⟩ | ⟨g', cap', cur, he, hb, hc, hn1, hn2, hsz, htk⟩
  · rw [List.length_replicate] at hz; omega
  · injection he with e1 e2 e3
    injection e1 with e1
    injection e1 with e1
    subst e1; subst e3
    rw [List.length_replicate] at hn1 htk
    refine ⟨cur, hc, fun j x hx => ?_, hsz, hn1, hn2, hb⟩
    simp only [blank, List.getElem?_replicate] at hx
    split at hx
    · rename_i hj
      obtain rfl := Option.some.inj hx
      have hm := hr.2 j z43 (by rw [List.getElem?_replicate, if_pos hj])
      have h3 := at_three (k43_openM hm)
      have hsz3 : Kd.sz k43 = 3 := rfl
      rw [← htk, hsz3] at h3
      rw [take_at (by omega), take_at (by omega), take_at (by omega)] at h3
      simpa [z43] using h3
    · cases hx
end Go.Proofs.Ythjcmodhleoocaa.Q
/- Kids -/
namespace Go.Proofs.Ythjcmodhleoocaa.Q
open Go.RowKit Go.Proofs.YthjcmodhleoocaaW.PrintWords Go.Proofs.YthjcmodhleoocaaW.PrintLast Go.Proofs.YthjcmodhleoocaaW.PrintMore
open Go.Proofs.Ythjcmodhleoocaa.TP

/-- A row of whole numbers of the call's own: nil, or a block of its type with the numbers as cells. -/
theorem ints_row {w : World} {base e : Nat} {ok : Nat → Prop} {v : Value} {xs : List Int} (h : Kd.R (Kd.int .i64) e w base ok v xs) (hp : 0 < xs.length) :
    ∃ b cap cur, v = .slice (some ⟨b, 0, none⟩) xs.length cap ∧ w.heap[b]? = some (.cells cur e (0, 0)) ∧ ∀ j (hj : j < xs.length), w.cell? ⟨b, j, none⟩ = some (.int .i64 xs[j]) := by
  obtain ⟨_, inner, ⟨hlen, ho⟩, hr⟩ := h
  rcases ho with ⟨_, hz⟩ | ⟨g', cap', cur, he, hb, hc, hn1, hn2, hsz, htk⟩
  · omega
  · refine ⟨g', cap', cur, he, hc, fun j hj => ?_⟩
    have hm : (inner.drop (j * 1)).take 1 = [Value.int .i64 xs[j]] := hr.2 j xs[j] (List.getElem?_eq_getElem hj)
    have hs1 : (Kd.int .i64).sz = 1 := rfl
    rw [blk_cell hc j]
    have h0 : ((inner.drop (j * 1)).take 1)[0]? = some (.int .i64 xs[j]) := by
      rw [hm]; rfl
    rw [List.getElem?_take_of_lt (by omega), List.getElem?_drop, Nat.mul_one, Nat.add_zero, ← htk, hs1, List.getElem?_take_of_lt (by omega)] at h0
    simpa using h0
theorem slice_val {w : World} {base e : Nat} {ok : Nat → Prop} {v : Value} {xs : List Int} (h : Kd.R (Kd.int .i64) e w base ok v xs) : ∃ A c, v = .slice A xs.length c := Kd.R_slice h

/-- The children as natural numbers. -/
def kdc (ch : List (List Int)) (i : Nat) : List Nat := (ch.getD i []).map Int.toNat
theorem kids_of {w : World} {base : Nat} {ok : Nat → Prop} {u : Value} {ch : List (List Int)} {g gl : Nat} {c1 c2 : Array Value} {t1 t2 : Nat} (h : Kd.R (Kd.slice 3 (Kd.int .i64)) 22 w base ok u ch)
    (hg : w.heap[g]? = some (.cells c1 t1 (0, 0))) (hl : w.heap[gl]? = some (.cells c2 t2 (0, 0))) (h1 : t1 ≠ 22) (h2 : t2 ≠ 22) (h3 : t1 ≠ 3) (h4 : t2 ≠ 3) (hp : 0 < ch.length)
    (hnn : ∀ c ∈ ch, ∀ x ∈ c, (0 : Int) ≤ x) : ∃ Ac cc, u = .slice Ac ch.length cc ∧ Kids w g gl Ac ch.length (kdc ch) := by
  obtain ⟨_, inner, ⟨hlen, ho⟩, hr⟩ := h
  rcases ho with ⟨_, hz⟩ | ⟨bc, cap', cur, he, hb, hc, hn1, hn2, hsz, htk⟩
  · omega
  · refine ⟨_, _, he, fun i hi => ⟨bc, 0, rfl, (blk_ne hc hg (Ne.symm h1)), (blk_ne hc hl (Ne.symm h2)), ?_⟩⟩
    obtain ⟨v, hv, hR⟩ := hr.2 i ch[i] (List.getElem?_eq_getElem hi)
    have hs1 : (Kd.slice 3 (Kd.int .i64)).sz = 1 := rfl
    have h0 : ((inner.drop (i * 1)).take 1)[0]? = some v := by
      have hv' : (inner.drop (i * 1)).take 1 = [v] := hv
      rw [hv']; rfl
    rw [List.getElem?_take_of_lt (by omega), List.getElem?_drop, Nat.mul_one, Nat.add_zero, ← htk, hs1, List.getElem?_take_of_lt (by omega)] at h0
    obtain ⟨Ai, ci, rfl⟩ := slice_val hR
    have hki : kdc ch i = ch[i].map Int.toNat := by unfold kdc; rw [List.getD_eq_getElem?_getD, List.getElem?_eq_getElem hi]; rfl
    refine ⟨Ai, ci, ?_, fun hne => ?_⟩
    · rw [Nat.zero_add, blk_cell hc i, hki, List.length_map]
      simpa using h0
    · rw [hki, List.length_map] at hne
      obtain ⟨bi, capi, curi, hei, hci, hcells⟩ := ints_row hR (by omega)
      injection hei with e1 _ _
      subst e1
      refine ⟨bi, 0, rfl, (blk_ne hci hg (Ne.symm h3)), (blk_ne hci hl (Ne.symm h4)), fun j hj => ?_⟩
      have hj' : j < ch[i].length := by rw [hki, List.length_map] at hj; exact hj
      rw [Nat.zero_add, hcells j hj']
      have hx := hnn _ (List.getElem_mem hi) _ (List.getElem_mem hj')
      have : ((kdc ch i)[j] : Int) = ch[i][j] := by
        simp only [hki, List.getElem_map]
        omega
      rw [this]
end Go.Proofs.Ythjcmodhleoocaa.Q
/- Visit -/
namespace Go.Proofs.Ythjcmodhleoocaa.Q
open Go.RowKit Go.Proofs.YthjcmodhleoocaaW.PrintWords Go.Proofs.YthjcmodhleoocaaW.PrintLast Go.Proofs.YthjcmodhleoocaaW.PrintMore
open Go.Proofs.Ythjcmodhleoocaa.TP
set_option maxRecDepth 100000 in
set_option maxHeartbeats 4000000 in
theorem visit_calls {W0 : World} {g gl n cap cc : Nat} {Ac : Option Addr} {kd : Nat → List Nat} (hk : Kids W0 g gl Ac n kd) (hn : n ≤ 1000000) (hlen : ∀ i, (kd i).length ≤ 1000000) (k : Nat) :
    ∀ (i d : Nat) (x y : Int) (s t : NS) (W : World), x = i → y = d → vis kd k i d s = some t → s.L.length = n → t.pre ≤ 1000000 → t.post ≤ 1000000 → d + k ≤ 1000000 →
    VS 56 41 (.slice Ac n cc) g gl n cap W0 W s →
    Calls Try.prog 32 #[.pointer (some ⟨g, 0, none⟩), .int .i64 x, .int .i64 y] W fun e w' => e = .returned (.tuple #[]) ∧ VS 56 41 (.slice Ac n cc) g gl n cap W0 w' t := by
  induction k with
  | zero => intro i d x y s t W _ _ h; cases h
  | succ k ih =>
    intro i d x y s t W hx hy h hL hp hq hd hV
    subst hx; subst hy
    have hup := vis_up _ _ _ _ _ h
    simp only [vis] at h
    split at h
    case isFalse => cases h
    case isTrue hi =>
    cases hf : (kd i).foldlM (fun s c => vis kd k c (d + 1) s) (enter i d s) with
    | none => rw [hf] at h; cases h
    | some m =>
    rw [hf] at h
    obtain rfl := Option.some.inj h
    obtain ⟨bc, oc, rfl, hbg, hbl, Ai, ci, hci, hcc⟩ := hk i (by omega)
    obtain ⟨p0, p1, p2, l0, l1, l2⟩ := hV.lab i hi
    have m0 := hV.labfree (i * 3)
    have m2 := hV.labfree (i * 3 + 2)
    have c0 := hV.cell 0
    have c1 := hV.cell 1
    have c2 := hV.cell 2
    have f2 := hV.free 2
    have hlab : i < n := by omega
    have hne := hV.ne
    have hup1 := hup.1; have hup2 := hup.2.1; have hup3 := hup.2.2.1
    have hb1 : s.pre ≤ 1000000 := by omega
    have hb2 : s.post ≤ 1000000 := by omega
    have hE := Aside0.mk (hV.drew.enter i d)
    have hld : (((W.setCell ⟨gl, i * 3, none⟩ (.int .i64 (s.pre : Int))).setCell ⟨gl, i * 3 + 2, none⟩ (.int .i64 (d : Int))).setCell ⟨g, 2, none⟩ (.int .i64 ((s.pre : Int) + 1))).cell? ⟨bc, oc + i, none⟩ = some (.slice Ai (kd i).length ci) := (hE.out.far hbg hbl rfl).trans hci
    have HF := Aside0.mk hf
    have HL := hlen i
    have hu56 := Try.underlying56
    have hu41 := Try.underlying41
    have HLs := Aside0.mk hL
    have HCC := Aside0.mk hcc
    have HIH := Aside0.mk ih
    have HP : m.pre ≤ 1000000 := hp
    have HQ : m.post + 1 ≤ 1000000 := hq
    simp at c0 c1 c2
    clear hf h hV hup hL hup1 hcc ih hlen hk hp hq hci
    go_enter Try.func32, Try.ntmps32
    go_wp2
    go_region
    go_wp2
    go_loopg [42] (kd i).length (fun kq v42 wr => ∃ (j : Nat) (sj : NS), v42 = .int .i64 (j : Int) ∧ j ≤ (kd i).length ∧ Aside0 (kq + j = (kd i).length) ∧ Aside0 (((kd i).drop j).foldlM (fun s c => vis kd k c (d + 1) s) sj = some m) ∧ Aside0 (sj.L.length = n) ∧ Aside0 (VS 56 41 (.slice (some ⟨bc, oc, none⟩) n cc) g gl n cap W0 wr sj))
    case atStart => exact ⟨0, enter i d s, rfl, Nat.zero_le _, ⟨rfl⟩, ⟨by rw [List.drop_zero]; exact HF.out⟩, ⟨by rw [enter_len]; exact HLs.out⟩, ⟨hE.out⟩⟩
    case round =>
      clear hE hld l0 l1 l2 m0 m2 c0 c1 c2 f2
      obtain ⟨j, sj, rfl, hj, HK, HFj, HLj, HVj⟩ := hrel
      by_cases hlt : j < (kd i).length
      · obtain ⟨m', hv, hr⟩ := fold_part _ j hlt HFj.out
        obtain ⟨bi, oi, rfl, hig, hil, hic⟩ := HCC.out (by omega)
        have hcell : wr.cell? ⟨bi, oi + j, none⟩ = some (.int .i64 ((kd i)[j] : Int)) := (HVj.out.far hig hil rfl).trans (hic j hlt)
        have hup := vis_up _ _ _ _ _ hv
        have hup' := fold_up (vis_up k) _ _ _ hr
        have e1 := hup.1; have e2 := hup'.2.1; have e3 := hup'.2.2.1
        have Hv := Aside0.mk hv
        have Hr := Aside0.mk hr
        have E1 : m'.pre ≤ 1000000 := by omega
        have E2 : m'.post ≤ 1000000 := by omega
        have E3 := Aside0.mk (e1.trans HLj.out)
        clear hv hr hup hup' hic e1 e2 e3 HFj
        go_wp2_with (go_at_call 32; refine (HIH.out ((kd i)[j]) (d + 1) _ _ sj m' _ rfl (by omega) Hv.out HLj.out E1 E2 (by omega) HVj.out).mono ?_; rintro e w1 ⟨rfl, hV1⟩; have HV1 := Aside0.mk hV1; clear hV1)
        go_roundg ((kd i).length - (j + 1))
        case measure => have := HK.out; omega
        case rel => exact ⟨j + 1, m', by go_num, by omega, ⟨by omega⟩, Hr, E3, HV1⟩
      · obtain rfl : j = (kd i).length := by omega
        have hfe := HFj.out
        rw [List.drop_length] at hfe
        obtain rfl := Option.some.inj hfe
        obtain ⟨q0, q1, q2, l0, l1, l2⟩ := HVj.out.lab i (by rw [HLj.out]; exact hlab)
        have m1 := HVj.out.labfree (i * 3 + 1)
        have c1 := HVj.out.cell 1
        have c3 := HVj.out.cell 3
        have f3 := HVj.out.free 3
        have HE := Aside0.mk (HVj.out.drew.leave i)
        simp at c1 c3
        clear HFj hfe HVj
        go_wp2
        go_region
        go_wp2
        go_end0
        exact ⟨rfl, HE.out⟩
end Go.Proofs.Ythjcmodhleoocaa.Q
/- FTreelabelCheck -/
namespace Go.Proofs.Ythjcmodhleoocaa.Q
open Go.RowKit Go.Proofs.YthjcmodhleoocaaW.PrintWords Go.Proofs.YthjcmodhleoocaaW.PrintLast Go.Proofs.YthjcmodhleoocaaW.PrintMore
attribute [local go_sem] max2_int min2_int max_two min_two max_three min_three max_four min_four   -- for this text's walks alone
set_option linter.unusedVariables false
set_option linter.unusedSimpArgs false

/-! ### treelabel_check: function 31 -/
mutual
def treelabel_check.l0 : Nat → List Int → List Int → Int → Int → Option (Int × Int)
 | 0, _, _, _, _ => none
 | k + 1, x0, x15, x16, x17 => if x17 < x16 then (if 0 ≤ x17 then (if x17 < (x15.length : Int) then (if (rd x15 x17) < (-1) then (some (x17, 8)) else (if (rd x15 x17) ≥ (x0.length : Int) then (some (x17, 8)) else (treelabel_check.l0 k x0 x15 x16 (wrap64 (x17 + 1))))) else (none)) else (none)) else (if 0 ≤ (x0.length : Int) then (if ((x0.length : Int) : Int).toNat ≤ 35184372088832 then (treelabel_check.l1 k x0 (List.replicate ((x0.length : Int) : Int).toNat 0) (-1) (x0.length : Int) 0) else (none)) else (none))
def treelabel_check.l1 : Nat → List Int → List Int → Int → Int → Int → Option (Int × Int)
 | 0, _, _, _, _, _ => none
 | k + 1, x0, x6, x7, x36, x37 => if x37 < x36 then (treelabel_check.l2 k x0 x6 x7 x37 x37 x36 x37) else (if x7 ≥ 0 then (some (x7, 12)) else (some (0, 0)))
def treelabel_check.j3 : Nat → List Int → List Int → Int → Int → Int → Int → Int → Option (Int × Int)
 | 0, _, _, _, _, _, _, _ => none
 | k + 1, x0, x6, x7, x8, x9, x36, x37 => if x9 < 0 then (treelabel_check.j4 k x0 x6 x7 x9 x36 x37 true) else (if 0 ≤ x9 then (if x9 < (x6.length : Int) then (treelabel_check.j4 k x0 x6 x7 x9 x36 x37 ((rd x6 x9) != (wrap64 (x8 + 1)))) else (none)) else (none))
def treelabel_check.j4 : Nat → List Int → List Int → Int → Int → Int → Int → Bool → Option (Int × Int)
 | 0, _, _, _, _, _, _, _ => none
 | k + 1, x0, x6, x7, x9, x36, x37, x69 => if x69 = true then (treelabel_check.l1 k x0 x6 x7 x36 (wrap64 (x37 + 1))) else (treelabel_check.l3 k x0 x6 x7 x9 x9 true x36 x37)
def treelabel_check.l3 : Nat → List Int → List Int → Int → Int → Int → Bool → Int → Int → Option (Int × Int)
 | 0, _, _, _, _, _, _, _, _ => none
 | k + 1, x0, x6, x7, x9, x10, x11, x36, x37 => if x11 = true then (treelabel_check.j6 k x0 x6 x7 x9 x10 x36 x37 true) else (treelabel_check.j6 k x0 x6 x7 x9 x10 x36 x37 (x10 != x9))
def treelabel_check.j6 : Nat → List Int → List Int → Int → Int → Int → Int → Int → Bool → Option (Int × Int)
 | 0, _, _, _, _, _, _, _, _ => none
 | k + 1, x0, x6, x7, x9, x10, x36, x37, x76 => if x76 = true then (if x7 < 0 then (if 0 ≤ x10 then (if x10 < (x0.length : Int) then (treelabel_check.l3 k x0 x6 x10 x9 (rd x0 x10) false x36 x37) else (none)) else (none)) else (if x10 < x7 then (if 0 ≤ x10 then (if x10 < (x0.length : Int) then (treelabel_check.l3 k x0 x6 x10 x9 (rd x0 x10) false x36 x37) else (none)) else (none)) else (if 0 ≤ x10 then (if x10 < (x0.length : Int) then (treelabel_check.l3 k x0 x6 x7 x9 (rd x0 x10) false x36 x37) else (none)) else (none)))) else (treelabel_check.l1 k x0 x6 x7 x36 (wrap64 (x37 + 1)))
def treelabel_check.l2 : Nat → List Int → List Int → Int → Int → Int → Int → Int → Option (Int × Int)
 | 0, _, _, _, _, _, _, _ => none
 | k + 1, x0, x6, x7, x8, x9, x36, x37 => if x9 ≥ 0 then (if 0 ≤ x9 then (if x9 < (x6.length : Int) then (if (rd x6 x9) = 0 then (if x9 < (x0.length : Int) then (treelabel_check.l2 k x0 (x6.set (x9 : Int).toNat (wrap64 (x8 + 1))) x7 x8 (rd x0 x9) x36 x37) else (none)) else (treelabel_check.j3 k x0 x6 x7 x8 x9 x36 x37)) else (none)) else (none)) else (treelabel_check.j3 k x0 x6 x7 x8 x9 x36 x37)
end
def treelabel_check.f (k : Nat) (l0 : List Int) : Option (Int × Int) := if (l0.length : Int) > 4096 then (some (0, 2)) else (treelabel_check.l0 k l0 l0 (l0.length : Int) 0)
theorem treelabel_check.mono_l : ∀ k, (∀ y0 y1 y2 y3, LeO (treelabel_check.l0 k y0 y1 y2 y3) (treelabel_check.l0 (k + 1) y0 y1 y2 y3)) ∧ (∀ y0 y1 y2 y3 y4, LeO (treelabel_check.l1 k y0 y1 y2 y3 y4) (treelabel_check.l1 (k + 1) y0 y1 y2 y3 y4)) ∧ (∀ y0 y1 y2 y3 y4 y5 y6, LeO (treelabel_check.j3 k y0 y1 y2 y3 y4 y5 y6) (treelabel_check.j3 (k + 1) y0 y1 y2 y3 y4 y5 y6)) ∧ (∀ y0 y1 y2 y3 y4 y5 y6, LeO (treelabel_check.j4 k y0 y1 y2 y3 y4 y5 y6) (treelabel_check.j4 (k + 1) y0 y1 y2 y3 y4 y5 y6)) ∧ (∀ y0 y1 y2 y3 y4 y5 y6 y7, LeO (treelabel_check.l3 k y0 y1 y2 y3 y4 y5 y6 y7) (treelabel_check.l3 (k + 1) y0 y1 y2 y3 y4 y5 y6 y7)) ∧ (∀ y0 y1 y2 y3 y4 y5 y6 y7, LeO (treelabel_check.j6 k y0 y1 y2 y3 y4 y5 y6 y7) (treelabel_check.j6 (k + 1) y0 y1 y2 y3 y4 y5 y6 y7)) ∧ (∀ y0 y1 y2 y3 y4 y5 y6, LeO (treelabel_check.l2 k y0 y1 y2 y3 y4 y5 y6) (treelabel_check.l2 (k + 1) y0 y1 y2 y3 y4 y5 y6))
 | 0 => ⟨fun _ _ _ _ r h => by simp [treelabel_check.l0] at h, fun _ _ _ _ _ r h => by simp [treelabel_check.l1] at h, fun _ _ _ _ _ _ _ r h => by simp [treelabel_check.j3] at h, fun _ _ _ _ _ _ _ r h => by simp [treelabel_check.j4] at h, fun _ _ _ _ _ _ _ _ r h => by simp [treelabel_check.l3] at h, fun _ _ _ _ _ _ _ _ r h => by simp [treelabel_check.j6] at h, fun _ _ _ _ _ _ _ r h => by simp [treelabel_check.l2] at h⟩
 | k + 1 => by
  obtain ⟨ih0, ih1, ih2, ih3, ih4, ih5, ih6⟩ := treelabel_check.mono_l k
  refine ⟨?_, ?_, ?_, ?_, ?_, ?_, ?_⟩
  ·intro y0 y1 y2 y3
   unfold treelabel_check.l0
   repeat' first
   | (with_reducible exact ih0 _ _ _ _)
   | (with_reducible exact ih1 _ _ _ _ _)
   | (with_reducible exact ih2 _ _ _ _ _ _ _)
   | (with_reducible exact ih3 _ _ _ _ _ _ _)
   | (with_reducible exact ih4 _ _ _ _ _ _ _ _)
   | (with_reducible exact ih5 _ _ _ _ _ _ _ _)
   | (with_reducible exact ih6 _ _ _ _ _ _ _)
   | (with_reducible exact LeO.refl _)
   | (with_reducible exact LeO.none _)
   | (with_reducible refine LeO.ite ?_ ?_)
   | (with_reducible refine LeO.bind ?_ (fun _ => ?_))
   | exact ih0 _ _ _ _
   | exact ih1 _ _ _ _ _
   | exact ih2 _ _ _ _ _ _ _
   | exact ih3 _ _ _ _ _ _ _
   | exact ih4 _ _ _ _ _ _ _ _
   | exact ih5 _ _ _ _ _ _ _ _
   | exact ih6 _ _ _ _ _ _ _
   | exact LeO.none _
   | refine LeO.ite ?_ ?_
   | refine LeO.bind ?_ (fun _ => ?_)
  ·intro y0 y1 y2 y3 y4
   unfold treelabel_check.l1
   repeat' first
   | (with_reducible exact ih0 _ _ _ _)
   | (with_reducible exact ih1 _ _ _ _ _)
   | (with_reducible exact ih2 _ _ _ _ _ _ _)
   | (with_reducible exact ih3 _ _ _ _ _ _ _)
   | (with_reducible exact ih4 _ _ _ _ _ _ _ _)
   | (with_reducible exact ih5 _ _ _ _ _ _ _ _)
   | (with_reducible exact ih6 _ _ _ _ _ _ _)
   | (with_reducible exact LeO.refl _)
   | (with_reducible exact LeO.none _)
   | (with_reducible refine LeO.ite ?_ ?_)
   | (with_reducible refine LeO.bind ?_ (fun _ => ?_))
   | exact ih0 _ _ _ _
   | exact ih1 _ _ _ _ _
   | exact ih2 _ _ _ _ _ _ _
   | exact ih3 _ _ _ _ _ _ _
   | exact ih4 _ _ _ _ _ _ _ _
   | exact ih5 _ _ _ _ _ _ _ _
   | exact ih6 _ _ _ _ _ _ _
   | exact LeO.none _
   | refine LeO.ite ?_ ?_
   | refine LeO.bind ?_ (fun _ => ?_)
  ·intro y0 y1 y2 y3 y4 y5 y6
   unfold treelabel_check.j3
   repeat' first
   | (with_reducible exact ih0 _ _ _ _)
   | (with_reducible exact ih1 _ _ _ _ _)
   | (with_reducible exact ih2 _ _ _ _ _ _ _)
   | (with_reducible exact ih3 _ _ _ _ _ _ _)
   | (with_reducible exact ih4 _ _ _ _ _ _ _ _)
   | (with_reducible exact ih5 _ _ _ _ _ _ _ _)
   | (with_reducible exact ih6 _ _ _ _ _ _ _)
   | (with_reducible exact LeO.refl _)
   | (with_reducible exact LeO.none _)
   | (with_reducible refine LeO.ite ?_ ?_)
   | (with_reducible refine LeO.bind ?_ (fun _ => ?_))
   | exact ih0 _ _ _ _
   | exact ih1 _ _ _ _ _
   | exact ih2 _ _ _ _ _ _ _
   | exact ih3 _ _ _ _ _ _ _
   | exact ih4 _ _ _ _ _ _ _ _
   | exact ih5 _ _ _ _ _ _ _ _
   | exact ih6 _ _ _ _ _ _ _
   | exact LeO.none _
   | refine LeO.ite ?_ ?_
   | refine LeO.bind ?_ (fun _ => ?_)
  ·intro y0 y1 y2 y3 y4 y5 y6
   unfold treelabel_check.j4
   repeat' first
   | (with_reducible exact ih0 _ _ _ _)
   | (with_reducible exact ih1 _ _ _ _ _)
   | (with_reducible exact ih2 _ _ _ _ _ _ _)
   | (with_reducible exact ih3 _ _ _ _ _ _ _)
   | (with_reducible exact ih4 _ _ _ _ _ _ _ _)
   | (with_reducible exact ih5 _ _ _ _ _ _ _ _)
   | (with_reducible exact ih6 _ _ _ _ _ _ _)
   | (with_reducible exact LeO.refl _)
   | (with_reducible exact LeO.none _)
   | (with_reducible refine LeO.ite ?_ ?_)
   | (with_reducible refine LeO.bind ?_ (fun _ => ?_))
   | exact ih0 _ _ _ _
   | exact ih1 _ _ _ _ _
   | exact ih2 _ _ _ _ _ _ _
   | exact ih3 _ _ _ _ _ _ _
   | exact ih4 _ _ _ _ _ _ _ _
   | exact ih5 _ _ _ _ _ _ _ _
   | exact ih6 _ _ _ _ _ _ _
   | exact LeO.none _
   | refine LeO.ite ?_ ?_
   | refine LeO.bind ?_ (fun _ => ?_)
  ·intro y0 y1 y2 y3 y4 y5 y6 y7
   unfold treelabel_check.l3
   repeat' first
   | (with_reducible exact ih0 _ _ _ _)
   | (with_reducible exact ih1 _ _ _ _ _)
   | (with_reducible exact ih2 _ _ _ _ _ _ _)
   | (with_reducible exact ih3 _ _ _ _ _ _ _)
   | (with_reducible exact ih4 _ _ _ _ _ _ _ _)
   | (with_reducible exact ih5 _ _ _ _ _ _ _ _)
   | (with_reducible exact ih6 _ _ _ _ _ _ _)
   | (with_reducible exact LeO.refl _)
   | (with_reducible exact LeO.none _)
   | (with_reducible refine LeO.ite ?_ ?_)
   | (with_reducible refine LeO.bind ?_ (fun _ => ?_))
   | exact ih0 _ _ _ _
   | exact ih1 _ _ _ _ _
   | exact ih2 _ _ _ _ _ _ _
   | exact ih3 _ _ _ _ _ _ _
   | exact ih4 _ _ _ _ _ _ _ _
   | exact ih5 _ _ _ _ _ _ _ _
   | exact ih6 _ _ _ _ _ _ _
   | exact LeO.none _
   | refine LeO.ite ?_ ?_
   | refine LeO.bind ?_ (fun _ => ?_)
  ·intro y0 y1 y2 y3 y4 y5 y6 y7
   unfold treelabel_check.j6
   repeat' first
   | (with_reducible exact ih0 _ _ _ _)
   | (with_reducible exact ih1 _ _ _ _ _)
   | (with_reducible exact ih2 _ _ _ _ _ _ _)
   | (with_reducible exact ih3 _ _ _ _ _ _ _)
   | (with_reducible exact ih4 _ _ _ _ _ _ _ _)
   | (with_reducible exact ih5 _ _ _ _ _ _ _ _)
   | (with_reducible exact ih6 _ _ _ _ _ _ _)
   | (with_reducible exact LeO.refl _)
   | (with_reducible exact LeO.none _)
   | (with_reducible refine LeO.ite ?_ ?_)
   | (with_reducible refine LeO.bind ?_ (fun _ => ?_))
   | exact ih0 _ _ _ _
   | exact ih1 _ _ _ _ _
   | exact ih2 _ _ _ _ _ _ _
   | exact ih3 _ _ _ _ _ _ _
   | exact ih4 _ _ _ _ _ _ _ _
   | exact ih5 _ _ _ _ _ _ _ _
   | exact ih6 _ _ _ _ _ _ _
   | exact LeO.none _
   | refine LeO.ite ?_ ?_
   | refine LeO.bind ?_ (fun _ => ?_)
  ·intro y0 y1 y2 y3 y4 y5 y6
   unfold treelabel_check.l2
   repeat' first
   | (with_reducible exact ih0 _ _ _ _)
   | (with_reducible exact ih1 _ _ _ _ _)
   | (with_reducible exact ih2 _ _ _ _ _ _ _)
   | (with_reducible exact ih3 _ _ _ _ _ _ _)
   | (with_reducible exact ih4 _ _ _ _ _ _ _ _)
   | (with_reducible exact ih5 _ _ _ _ _ _ _ _)
   | (with_reducible exact ih6 _ _ _ _ _ _ _)
   | (with_reducible exact LeO.refl _)
   | (with_reducible exact LeO.none _)
   | (with_reducible refine LeO.ite ?_ ?_)
   | (with_reducible refine LeO.bind ?_ (fun _ => ?_))
   | exact ih0 _ _ _ _
   | exact ih1 _ _ _ _ _
   | exact ih2 _ _ _ _ _ _ _
   | exact ih3 _ _ _ _ _ _ _
   | exact ih4 _ _ _ _ _ _ _ _
   | exact ih5 _ _ _ _ _ _ _ _
   | exact ih6 _ _ _ _ _ _ _
   | exact LeO.none _
   | refine LeO.ite ?_ ?_
   | refine LeO.bind ?_ (fun _ => ?_)
theorem treelabel_check.mono : ∀ a0 k, LeO (treelabel_check.f k a0) (treelabel_check.f (k + 1) a0) := by
 intro a0 k
 obtain ⟨ih0, ih1, ih2, ih3, ih4, ih5, ih6⟩ := treelabel_check.mono_l k
 unfold treelabel_check.f
 repeat' first
   | (with_reducible exact ih0 _ _ _ _)
   | (with_reducible exact ih1 _ _ _ _ _)
   | (with_reducible exact ih2 _ _ _ _ _ _ _)
   | (with_reducible exact ih3 _ _ _ _ _ _ _)
   | (with_reducible exact ih4 _ _ _ _ _ _ _ _)
   | (with_reducible exact ih5 _ _ _ _ _ _ _ _)
   | (with_reducible exact ih6 _ _ _ _ _ _ _)
   | (with_reducible exact LeO.refl _)
   | (with_reducible exact LeO.none _)
   | (with_reducible refine LeO.ite ?_ ?_)
   | (with_reducible refine LeO.bind ?_ (fun _ => ?_))
   | exact ih0 _ _ _ _
   | exact ih1 _ _ _ _ _
   | exact ih2 _ _ _ _ _ _ _
   | exact ih3 _ _ _ _ _ _ _
   | exact ih4 _ _ _ _ _ _ _ _
   | exact ih5 _ _ _ _ _ _ _ _
   | exact ih6 _ _ _ _ _ _ _
   | exact LeO.none _
   | refine LeO.ite ?_ ?_
   | refine LeO.bind ?_ (fun _ => ?_)
set_option maxHeartbeats 8000000 in
set_option maxRecDepth 100000 in
theorem treelabel_check.calls (k : Nat) (A0 : Option Addr) (c0 : Nat) (l0 : List Int) (r1 : Int) (r2 : Int) (w : World) (hr0 : Kd.C (Kd.int .i64) w A0 l0.length l0) (hc0 : l0.length ≤ c0) (h : treelabel_check.f k l0 = some (r1, r2)) :
  Calls Try.prog 31 #[.slice A0 l0.length c0] w fun e w' => e = .returned (.tuple #[.int .i64 r1, .int .i64 r2]) ∧ Below w.heap.size w w' := by
 have HR0 := Aside0.mk hr0
 have HC0 := Aside0.mk hc0
 clear hr0 hc0
 have HB := Aside0.mk (Below.refl w.heap.size w)
 have H : (if (l0.length : Int) > 4096 then (some (0, 2)) else (treelabel_check.l0 k l0 l0 (l0.length : Int) 0)) = some (r1, r2) := h
 clear h
 by_cases c2 : (l0.length : Int) > 4096
 ·rw [if_pos c2] at H
  have c2b0 : decide (4096 < (l0.length : Int)) = true := decide_eq_true c2
  have c2b1 : decide (4096 < l0.length) = true := decide_eq_true (by omega)
  clear c2
  simp only [Option.some.injEq, Prod.mk.injEq] at H
  obtain ⟨rfl, rfl⟩ := H
  go_enter Try.func31, Try.ntmps31
  go_wp2
  go_ret2
  exact ⟨by first | rfl | (simp [errW_none, errW_some] <;> rfl) | (simp [*, errW_none, errW_some] <;> rfl), by repeat (first | (with_reducible first | exact HB.out | apply below_alloc | apply pw_below_drewN | apply below_drew1) | exact HB.out)⟩
 ·rw [if_neg c2] at H
  have c2b0 : decide (4096 < (l0.length : Int)) = false := decide_eq_false c2
  have c2b1 : decide (4096 < l0.length) = false := decide_eq_false (by omega)
  clear c2
  have H' := Aside0.mk H
  clear H
  go_enter Try.func31, Try.ntmps31
  go_wp2
  go_loopg [17] k (fun kq v17 w' => ∃ (x17_1 : Int), v17 = .int .i64 x17_1 ∧ Aside0 (treelabel_check.l0 kq l0 l0 (l0.length : Int) x17_1 = some (r1, r2)) ∧ Aside0 (kq ≤ k) ∧ Aside0 (Below w.heap.size w w'))
  case atStart => exact ⟨(0), (by first | rfl | (simp; done) | (simp [*]; done)), H', ⟨Nat.le_refl _⟩, ⟨by repeat (first | (with_reducible first | exact HB.out | apply below_alloc | apply pw_below_drewN | apply below_drew1) | exact HB.out)⟩⟩
  case round =>
   clear H'
   try clear c2
   try clear c2b0
   try clear c2b1
   try clear p2
   obtain ⟨x17_1, rfl, HA, HK1, HB⟩ := hrel
   cases gk with
   | zero => exact absurd HA.out (by simp [treelabel_check.l0])
   | succ k1 =>
    have H := HA.out
    clear HA
    simp only [treelabel_check.l0] at H
    by_cases c3 : x17_1 < (l0.length : Int)
    ·rw [if_pos c3] at H
     have c3b0 : decide (x17_1 < (l0.length : Int)) = true := decide_eq_true c3
     clear c3
     by_cases c4 : 0 ≤ x17_1
     ·rw [if_pos c4] at H
      have c4b0 : decide (0 ≤ x17_1) = true := decide_eq_true c4
      clear c4
      by_cases c5 : x17_1 < (l0.length : Int)
      ·rw [if_pos c5] at H
       have c5b0 : decide (x17_1 < (l0.length : Int)) = true := decide_eq_true c5
       clear c5
       by_cases c6 : (rd l0 x17_1) < (-1)
       ·rw [if_pos c6] at H
        have c6b0 : decide ((rd l0 x17_1) < (-1)) = true := decide_eq_true c6
        clear c6
        simp only [Option.some.injEq, Prod.mk.injEq] at H
        obtain ⟨rfl, rfl⟩ := H
        have p101 : 0 ≤ (x17_1 : Int) := of_decide_eq_true (by first | (with_reducible assumption) | assumption)
        have q101 : x17_1 < (l0.length : Int) := of_decide_eq_true (by first | (with_reducible assumption) | assumption)
        obtain ⟨ad101, e101, hx101_0⟩ := Kd.at_int HR0.out x17_1 p101 q101
        cases e101
        replace hx101_0 := (HB.out.cell (World.block_lt_of_cell? w _ hx101_0)).trans hx101_0
        replace p101 := eq_true p101
        replace q101 := eq_true q101
        go_wp2
        go_ret2
        exact ⟨by first | rfl | (simp [errW_none, errW_some] <;> rfl) | (simp [*, errW_none, errW_some] <;> rfl), by repeat (first | (with_reducible first | exact HB.out | apply below_alloc | apply pw_below_drewN | apply below_drew1) | exact HB.out)⟩
       ·rw [if_neg c6] at H
        have c6b0 : decide ((rd l0 x17_1) < (-1)) = false := decide_eq_false c6
        clear c6
        by_cases c7 : (rd l0 x17_1) ≥ (l0.length : Int)
        ·rw [if_pos c7] at H
         have c7b0 : decide ((l0.length : Int) ≤ (rd l0 x17_1)) = true := decide_eq_true c7
         clear c7
         simp only [Option.some.injEq, Prod.mk.injEq] at H
         obtain ⟨rfl, rfl⟩ := H
         have p101 : 0 ≤ (x17_1 : Int) := of_decide_eq_true (by first | (with_reducible assumption) | assumption)
         have q101 : x17_1 < (l0.length : Int) := of_decide_eq_true (by first | (with_reducible assumption) | assumption)
         obtain ⟨ad101, e101, hx101_0⟩ := Kd.at_int HR0.out x17_1 p101 q101
         cases e101
         replace hx101_0 := (HB.out.cell (World.block_lt_of_cell? w _ hx101_0)).trans hx101_0
         replace p101 := eq_true p101
         replace q101 := eq_true q101
         go_wp2
         go_ret2
         exact ⟨by first | rfl | (simp [errW_none, errW_some] <;> rfl) | (simp [*, errW_none, errW_some] <;> rfl), by repeat (first | (with_reducible first | exact HB.out | apply below_alloc | apply pw_below_drewN | apply below_drew1) | exact HB.out)⟩
        ·rw [if_neg c7] at H
         have c7b0 : decide ((l0.length : Int) ≤ (rd l0 x17_1)) = false := decide_eq_false c7
         clear c7
         have H' := Aside0.mk H
         clear H
         have p101 : 0 ≤ (x17_1 : Int) := of_decide_eq_true (by first | (with_reducible assumption) | assumption)
         have q101 : x17_1 < (l0.length : Int) := of_decide_eq_true (by first | (with_reducible assumption) | assumption)
         obtain ⟨ad101, e101, hx101_0⟩ := Kd.at_int HR0.out x17_1 p101 q101
         cases e101
         replace hx101_0 := (HB.out.cell (World.block_lt_of_cell? w _ hx101_0)).trans hx101_0
         replace p101 := eq_true p101
         replace q101 := eq_true q101
         go_wp2
         go_roundg k1
         case measure => have := HK1.out; omega
         case rel => exact ⟨(wrap64 (x17_1 + 1)), (by first | rfl | (simp; done) | (simp [*]; done)), H', ⟨by have := HK1.out; omega⟩, ⟨by repeat (first | (with_reducible first | exact HB.out | apply below_alloc | apply pw_below_drewN | apply below_drew1) | exact HB.out)⟩⟩
      ·rw [if_neg c5] at H
       exact absurd H (by simp)
     ·rw [if_neg c4] at H
      exact absurd H (by simp)
    ·rw [if_neg c3] at H
     have c3b0 : decide (x17_1 < (l0.length : Int)) = false := decide_eq_false c3
     clear c3
     by_cases c8 : 0 ≤ (l0.length : Int)
     ·rw [if_pos c8] at H
      have c8b0 := eq_true c8
      have c8b1 : decide (0 ≤ (l0.length : Int)) = true := decide_eq_true c8
      clear c8
      by_cases c9 : ((l0.length : Int) : Int).toNat ≤ 35184372088832
      ·rw [if_pos c9] at H
       have c9b0 := eq_true c9
       have c9b1 : decide (((l0.length : Int) : Int).toNat ≤ 35184372088832) = true := decide_eq_true c9
       clear c9
       obtain ⟨y102, hy102⟩ : ∃ y_ : List Int, y_ = (List.replicate ((l0.length : Int) : Int).toNat 0) := ⟨_, rfl⟩
       replace H : (treelabel_check.l1 k1 l0 y102 (-1) (l0.length : Int) 0) = some (r1, r2) := by first | (rw [hy102]; with_reducible exact H) | (have H2_ := (Option.bind_some _ _).symm.trans H; rw [hy102]; with_reducible exact H2_) | (have H2_ := (Option.bind_some _ _).symm.trans H; with_reducible exact H2_) | with_reducible exact H | (rw [hy102]; exact H) | exact H
       have Ny102 := Aside0.mk hy102
       clear hy102
       have H' := Aside0.mk H
       clear H
       go_wp2_with (first | ((with_reducible refine gate_dst (N := 34) rfl ?_); (try (refine gate_guard (by rfl) ?_; dsimp only)); refine Kd.R_make (Kd.int .i64) _ 3 rfl (N := 34) rfl 22 _ _ rfl (l0.length : Int) rfl rfl Try.underlying22 (.int .i64 0) 8 info3 rfl (by decide) (by omega) 0 (ok := fun _ => True) (okp := fun _ => True) rfl (fun _ hk => hk) trivial (of_decide_eq_true (by first | (with_reducible assumption) | assumption)) (Nat.le_trans (Nat.mul_le_mul_right _ (of_decide_eq_true (by first | (with_reducible assumption) | assumption) : (l0.length : Int).toNat ≤ 35184372088832)) (by omega)) (Below.refl _ _) (Nat.le_refl _) ?_; intro v103 w10 ho11 hb hg_ hnew_; clear hg_ hnew_; (first | rw [← Ny102.out] at ho11 | (simp only [Int.reduceToNat] at ho11; rw [← Ny102.out] at ho11)); have n0_ := Aside0.mk (Kd.R_lower ho11 (below_size (by repeat (first | (with_reducible first | exact HB.out | apply below_alloc | apply pw_below_drewN | apply below_drew1) | exact HB.out)))); have n1_ := Aside0.mk (below_step (by repeat (first | (with_reducible first | exact HB.out | apply below_alloc | apply pw_below_drewN | apply below_drew1) | exact HB.out)) hb); clear HB; have HO104 := n0_; have HB := n1_; clear n0_ n1_; clear hb ho11))
       go_loopg [7, 37] k1 (fun kq v7 v37 w' => ∃ (x6_2 : List Int) (x7_2 : Int) (x37_2 : Int), v7 = .int .i64 x7_2 ∧ v37 = .int .i64 x37_2 ∧ Aside0 (treelabel_check.l1 kq l0 x6_2 x7_2 (l0.length : Int) x37_2 = some (r1, r2)) ∧ Aside0 (kq ≤ k1) ∧ Aside0 (Kd.R (Kd.int .i64) 3 w' w.heap.size (fun _ => True) v103 x6_2) ∧ Aside0 (Below w.heap.size w w'))
       case atStart => exact ⟨(y102), ((-1)), (0), (by first | rfl | (simp; done) | (simp [*]; done)), (by first | rfl | (simp; done) | (simp [*]; done)), H', ⟨Nat.le_refl _⟩, ⟨by (with_reducible repeat (first | apply Kd.R_alloc | apply Kd.R_drewN | apply Kd.R_drew)); exact HO104.out⟩, ⟨by repeat (first | (with_reducible first | exact HB.out | apply below_alloc | apply pw_below_drewN | apply below_drew1) | exact HB.out)⟩⟩
       case round =>
        clear H'
        try clear p1
        try clear q1
        try clear hx1
        try clear c2
        try clear c2b0
        try clear c2b1
        try clear p2
        try clear c3
        try clear c3b0
        try clear c4
        try clear c4b0
        try clear c5
        try clear c5b0
        try clear c6
        try clear c6b0
        try clear p6
        try clear c7
        try clear c7b0
        try clear c8
        try clear c8b0
        try clear c8b1
        try clear c9
        try clear c9b0
        try clear c9b1
        try clear p10
        try clear q10
        try clear hx10
        try clear hx101_0
        try clear p101
        try clear p2
        try clear q101
        obtain ⟨x6_2, x7_2, x37_2, rfl, rfl, HA, HK2, HO_6, HB⟩ := hrel
        cases gk with
        | zero => exact absurd HA.out (by simp [treelabel_check.l1])
        | succ k2 =>
         have H := HA.out
         clear HA
         simp only [treelabel_check.l1] at H
         by_cases c12 : x37_2 < (l0.length : Int)
         ·rw [if_pos c12] at H
          have c12b0 : decide (x37_2 < (l0.length : Int)) = true := decide_eq_true c12
          clear c12
          have HC13 := Aside0.mk H
          clear H
          go_upto_block 4 with (fail)
          go_cut [9] (fun v9 wc => ∃ (kq : Nat) (x6_12 : List Int) (x9_12 : Int), v9 = .int .i64 x9_12 ∧ Aside0 (treelabel_check.j3 kq l0 x6_12 x7_2 x37_2 x9_12 (l0.length : Int) x37_2 = some (r1, r2)) ∧ Aside0 (kq ≤ k2) ∧ Aside0 (Kd.R (Kd.int .i64) 3 wc w.heap.size (fun _ => True) v103 x6_12) ∧ Aside0 (Below w.heap.size w wc))
          case first =>
           have H := HC13.out
           clear HC13
           have H' := Aside0.mk H
           clear H
           go_wp2
           go_loopg [9] k2 (fun kq v9 w' => ∃ (x6_3 : List Int) (x9_3 : Int), v9 = .int .i64 x9_3 ∧ Aside0 (treelabel_check.l2 kq l0 x6_3 x7_2 x37_2 x9_3 (l0.length : Int) x37_2 = some (r1, r2)) ∧ Aside0 (kq ≤ k2) ∧ Aside0 (Kd.R (Kd.int .i64) 3 w' w.heap.size (fun _ => True) v103 x6_3) ∧ Aside0 (Below w.heap.size w w'))
           case atStart => exact ⟨(x6_2), (x37_2), (by first | rfl | (simp; done) | (simp [*]; done)), H', ⟨Nat.le_refl _⟩, ⟨by (with_reducible repeat (first | apply Kd.R_alloc | apply Kd.R_drewN | apply Kd.R_drew)); exact HO_6.out⟩, ⟨by repeat (first | (with_reducible first | exact HB.out | apply below_alloc | apply pw_below_drewN | apply below_drew1) | exact HB.out)⟩⟩
           case round =>
            clear H'
            try clear c1
            try clear p1
            try clear q1
            try clear hx1
            try clear c2
            try clear c2b0
            try clear c2b1
            try clear p2
            try clear c3
            try clear c3b0
            try clear c4
            try clear c4b0
            try clear c5
            try clear c5b0
            try clear c6
            try clear c6b0
            try clear p6
            try clear c7
            try clear c7b0
            try clear c8
            try clear c8b0
            try clear c8b1
            try clear c9
            try clear c9b0
            try clear c9b1
            try clear p10
            try clear q10
            try clear hx10
            try clear c12
            try clear c12b0
            try clear hx101_0
            try clear p1
            try clear p10
            try clear p101
            try clear p2
            try clear p6
            try clear q1
            try clear q10
            try clear q101
            obtain ⟨x6_3, x9_3, rfl, HA, HK3, HO_6, HB⟩ := hrel
            cases gk with
            | zero => exact absurd HA.out (by simp [treelabel_check.l2])
            | succ k3 =>
             have H := HA.out
             clear HA
             simp only [treelabel_check.l2] at H
             by_cases c14 : x9_3 ≥ 0
             ·rw [if_pos c14] at H
              have c14b0 : decide (0 ≤ x9_3) = true := decide_eq_true c14
              clear c14
              (first | rw [c14b0] | (simp only [i64_w, i32_w]; rw [c14b0]) | skip)
              by_cases c15 : 0 ≤ x9_3
              ·rw [if_pos c15] at H
               have c15b0 : decide (0 ≤ x9_3) = true := decide_eq_true c15
               clear c15
               by_cases c16 : x9_3 < (x6_3.length : Int)
               ·rw [if_pos c16] at H
                have c16b0 : decide (x9_3 < (x6_3.length : Int)) = true := decide_eq_true c16
                clear c16
                by_cases c17 : (rd x6_3 x9_3) = 0
                ·rw [if_pos c17] at H
                 have c17b0 : ((rd x6_3 x9_3) == 0) = true := beq_iff_eq.mpr c17
                 have c17b1 : ((rd x6_3 x9_3) != 0) = false := bne_eq_false_iff_eq.mpr c17
                 clear c17
                 obtain ⟨y106, hy106⟩ : ∃ y_ : List Int, y_ = (x6_3.set (x9_3 : Int).toNat (wrap64 (x37_2 + 1))) := ⟨_, rfl⟩
                 replace H : (if x9_3 < (l0.length : Int) then (treelabel_check.l2 k3 l0 y106 x7_2 x37_2 (rd l0 x9_3) (l0.length : Int) x37_2) else (none)) = some (r1, r2) := by first | (rw [hy106]; with_reducible exact H) | (have H2_ := (Option.bind_some _ _).symm.trans H; rw [hy106]; with_reducible exact H2_) | (have H2_ := (Option.bind_some _ _).symm.trans H; with_reducible exact H2_) | with_reducible exact H | (rw [hy106]; exact H) | exact H
                 have Ny106 := Aside0.mk hy106
                 clear hy106
                 by_cases c19 : x9_3 < (l0.length : Int)
                 ·rw [if_pos c19] at H
                  have c19b0 : decide (x9_3 < (l0.length : Int)) = true := decide_eq_true c19
                  clear c19
                  have H' := Aside0.mk H
                  clear H
                  obtain ⟨Ao20, co20, eo20⟩ := Kd.R_slice HO_6.out
                  subst eo20
                  have p105 : 0 ≤ (x9_3 : Int) := of_decide_eq_true (by first | (with_reducible assumption) | assumption)
                  have q105 : x9_3 < (x6_3.length : Int) := of_decide_eq_true (by first | (with_reducible assumption) | assumption)
                  obtain ⟨ad105, e105, hx105_0⟩ := Kd.at_int (Kd.R_reads' HO_6.out).2.2 x9_3 p105 q105
                  cases e105
                  replace p105 := eq_true p105
                  replace q105 := eq_true q105
                  have p18 : 0 ≤ (x9_3 : Int) := of_decide_eq_true (by first | (with_reducible assumption) | assumption)
                  have q18 : (x9_3 : Int) < ((x6_3.length : Int) : Int) := of_decide_eq_true (by first | (with_reducible assumption) | assumption)
                  obtain ⟨go18, co18, eo18, gb18, gl18, cl18, HG18⟩ := Kd.R_form HO_6.out (by omega)
                  (first | cases eo18 | (injection eo18 with ea_ en_ ec_; (first | subst ea_ | (injection ea_ with ea_; subst ea_)); subst ec_; clear en_))
                  have GB18 := Aside0.mk gb18
                  have GG18 := Aside0.mk HG18
                  clear gb18 gl18 HG18
                  (first | simp only [add_plain] at hx105_0 | skip)
                  obtain ⟨hx18_0, hf18_0⟩ := Kd.R_celln 0 HO_6.out (x9_3 : Int) p18 q18
                  replace p18 := eq_true p18
                  replace q18 := eq_true q18
                  have HP21 := Kd.R_putg HO_6.out (x9_3 : Int) (wrap64 (x37_2 + 1))
                  go_wp2_with (first | ((with_reducible refine gate_store (t := 3) (p := 54) rfl ?_); refine store_event (t := 3) (p := 54) (v := ?vo_w22) (w1 := (wr.setCell ⟨go18, (x9_3 : Int).toNat, none⟩ (.int .i64 (wrap64 (x37_2 + 1))))) ?hg ?ho ?hn ?hr ?_; (case ho => rfl); (case hg => rfl); (case hn => rfl); (case hr => first | (go_simp; done) | (go_simp; rfl)); intro w22 hw; have hg : wr.grownBy w22 (some go18) := (by rw [hw]; exact HP21.2); have hp_ : Kd.R (Kd.int .i64) 3 w22 w.heap.size (fun _ => True) (.slice (some ⟨go18, 0, none⟩) x6_3.length co20) y106 := (by rw [hw, Ny106.out]; exact HP21.1); clear HP21; have n0_ := Aside0.mk (hp_); have n1_ := Aside0.mk ((by rw [hw]; exact below_set (HB.out) GB18.out : Below w.heap.size w w22)); clear HO_6; clear HB; have HO_6 := n0_; have HB := n1_; clear n0_ n1_; clear hg hw hp_; have p107 : 0 ≤ (x9_3 : Int) := of_decide_eq_true (by first | (with_reducible assumption) | assumption); have q107 : x9_3 < (l0.length : Int) := of_decide_eq_true (by first | (with_reducible assumption) | assumption); obtain ⟨ad107, e107, hx107_0⟩ := Kd.at_int HR0.out x9_3 p107 q107; cases e107; replace hx107_0 := (HB.out.cell (World.block_lt_of_cell? w _ hx107_0)).trans hx107_0; replace p107 := eq_true p107; replace q107 := eq_true q107))
                  go_roundg k3
                  case measure => have := HK1.out; have := HK2.out; have := HK3.out; omega
                  case rel => exact ⟨(y106), (rd l0 x9_3), (by first | rfl | (simp; done) | (simp [*]; done)), H', ⟨by have := HK1.out; have := HK2.out; have := HK3.out; omega⟩, ⟨by (with_reducible repeat (first | apply Kd.R_alloc | apply Kd.R_drewN | apply Kd.R_drew)); exact HO_6.out⟩, ⟨by repeat (first | (with_reducible first | exact HB.out | apply below_alloc | apply pw_below_drewN | apply below_drew1) | exact HB.out)⟩⟩
                 ·rw [if_neg c19] at H
                  exact absurd H (by simp)
                ·rw [if_neg c17] at H
                 have c17b0 : ((rd x6_3 x9_3) == 0) = false := beq_eq_false_iff_ne.mpr c17
                 have c17b1 : ((rd x6_3 x9_3) != 0) = true := bne_iff_ne.mpr c17
                 have H' := Aside0.mk H
                 clear H
                 obtain ⟨Ao23, co23, eo23⟩ := Kd.R_slice HO_6.out
                 subst eo23
                 have p105 : 0 ≤ (x9_3 : Int) := of_decide_eq_true (by first | (with_reducible assumption) | assumption)
                 have q105 : x9_3 < (x6_3.length : Int) := of_decide_eq_true (by first | (with_reducible assumption) | assumption)
                 obtain ⟨ad105, e105, hx105_0⟩ := Kd.at_int (Kd.R_reads' HO_6.out).2.2 x9_3 p105 q105
                 cases e105
                 replace p105 := eq_true p105
                 replace q105 := eq_true q105
                 go_wp2
                 go_meet
                 case rel => exact ⟨_, (x6_3), (x9_3), (by first | rfl | (simp; done) | (simp [*]; done)), H', ⟨by have := HK1.out; have := HK2.out; have := HK3.out; first | omega | exact Nat.le_refl _⟩, ⟨by (with_reducible repeat (first | apply Kd.R_alloc | apply Kd.R_drewN | apply Kd.R_drew)); exact HO_6.out⟩, ⟨by repeat (first | (with_reducible first | exact HB.out | apply below_alloc | apply pw_below_drewN | apply below_drew1) | exact HB.out)⟩⟩
               ·rw [if_neg c16] at H
                exact absurd H (by simp)
              ·rw [if_neg c15] at H
               exact absurd H (by simp)
             ·rw [if_neg c14] at H
              have c14b0 : decide (0 ≤ x9_3) = false := decide_eq_false c14
              clear c14
              (first | rw [c14b0] | (simp only [i64_w, i32_w]; rw [c14b0]) | skip)
              have H' := Aside0.mk H
              clear H
              go_wp2
              go_meet
              case rel => exact ⟨_, (x6_3), (x9_3), (by first | rfl | (simp; done) | (simp [*]; done)), H', ⟨by have := HK1.out; have := HK2.out; have := HK3.out; first | omega | exact Nat.le_refl _⟩, ⟨by (with_reducible repeat (first | apply Kd.R_alloc | apply Kd.R_drewN | apply Kd.R_drew)); exact HO_6.out⟩, ⟨by repeat (first | (with_reducible first | exact HB.out | apply below_alloc | apply pw_below_drewN | apply below_drew1) | exact HB.out)⟩⟩
          case rest =>
           clear HC13
           try clear c1
           try clear p1
           try clear q1
           try clear hx1
           try clear hf1
           try clear c2
           try clear c2b0
           try clear c2b1
           try clear p2
           try clear c3
           try clear c3b0
           try clear c4
           try clear c4b0
           try clear c5
           try clear c5b0
           try clear c6
           try clear c6b0
           try clear p6
           try clear c7
           try clear c7b0
           try clear c8
           try clear c8b0
           try clear c8b1
           try clear c9
           try clear c9b0
           try clear c9b1
           try clear p10
           try clear q10
           try clear hx10
           try clear c12
           try clear c12b0
           try clear c14
           try clear c14b0
           try clear c15
           try clear c15b0
           try clear c16
           try clear c16b0
           try clear c17
           try clear c17b0
           try clear c17b1
           try clear p18
           try clear q18
           try clear hx18
           try clear hf18
           try clear c19
           try clear c19b0
           try clear hx101_0
           try clear hx105_0
           try clear hx107_0
           try clear hx18_0
           try clear p1
           try clear p10
           try clear p101
           try clear p105
           try clear p107
           try clear p18
           try clear p2
           try clear p6
           try clear q1
           try clear q10
           try clear q101
           try clear q105
           try clear q107
           try clear q18
           obtain ⟨kq, x6_12, x9_12, rfl, HA, HJ12, HO_6, HB⟩ := hcut
           cases kq with
           | zero => exact absurd HA.out (by simp [treelabel_check.j3])
           | succ kj12 =>
            have H := HA.out
            clear HA
            simp only [treelabel_check.j3] at H
            have HC24 := Aside0.mk H
            clear H
            go_upto_region 18 with (fail)
            go_cut [69] (fun v69 wc => ∃ (kq : Nat) (x69_23 : Bool), v69 = .bool x69_23 ∧ Aside0 (treelabel_check.j4 kq l0 x6_12 x7_2 x9_12 (l0.length : Int) x37_2 x69_23 = some (r1, r2)) ∧ Aside0 (kq ≤ kj12) ∧ Aside0 (Kd.R (Kd.int .i64) 3 wc w.heap.size (fun _ => True) v103 x6_12) ∧ Aside0 (Below w.heap.size w wc))
            case first =>
             have H := HC24.out
             clear HC24
             by_cases c25 : x9_12 < 0
             ·rw [if_pos c25] at H
              have c25b0 : decide (x9_12 < 0) = true := decide_eq_true c25
              clear c25
              (first | rw [c25b0] | (simp only [i64_w, i32_w]; rw [c25b0]) | skip)
              have H' := Aside0.mk H
              clear H
              go_wp2
              go_meet
              case rel => exact ⟨_, (true), (by first | rfl | (simp; done) | (simp [*]; done)), H', ⟨by have := HK1.out; have := HK2.out; have := HJ12.out; first | omega | exact Nat.le_refl _⟩, ⟨by (with_reducible repeat (first | apply Kd.R_alloc | apply Kd.R_drewN | apply Kd.R_drew)); exact HO_6.out⟩, ⟨by repeat (first | (with_reducible first | exact HB.out | apply below_alloc | apply pw_below_drewN | apply below_drew1) | exact HB.out)⟩⟩
             ·rw [if_neg c25] at H
              have c25b0 : decide (x9_12 < 0) = false := decide_eq_false c25
              clear c25
              (first | rw [c25b0] | (simp only [i64_w, i32_w]; rw [c25b0]) | skip)
              by_cases c26 : 0 ≤ x9_12
              ·rw [if_pos c26] at H
               have c26b0 : decide (0 ≤ x9_12) = true := decide_eq_true c26
               clear c26
               by_cases c27 : x9_12 < (x6_12.length : Int)
               ·rw [if_pos c27] at H
                have c27b0 : decide (x9_12 < (x6_12.length : Int)) = true := decide_eq_true c27
                clear c27
                have H' := Aside0.mk H
                clear H
                obtain ⟨Ao28, co28, eo28⟩ := Kd.R_slice HO_6.out
                subst eo28
                have p108 : 0 ≤ (x9_12 : Int) := of_decide_eq_true (by first | (with_reducible assumption) | assumption)
                have q108 : x9_12 < (x6_12.length : Int) := of_decide_eq_true (by first | (with_reducible assumption) | assumption)
                obtain ⟨ad108, e108, hx108_0⟩ := Kd.at_int (Kd.R_reads' HO_6.out).2.2 x9_12 p108 q108
                cases e108
                replace p108 := eq_true p108
                replace q108 := eq_true q108
                go_wp2
                go_meet
                case rel => exact ⟨_, (((rd x6_12 x9_12) != (wrap64 (x37_2 + 1)))), (by first | rfl | (simp; done) | (simp [*]; done)), H', ⟨by have := HK1.out; have := HK2.out; have := HJ12.out; first | omega | exact Nat.le_refl _⟩, ⟨by (with_reducible repeat (first | apply Kd.R_alloc | apply Kd.R_drewN | apply Kd.R_drew)); exact HO_6.out⟩, ⟨by repeat (first | (with_reducible first | exact HB.out | apply below_alloc | apply pw_below_drewN | apply below_drew1) | exact HB.out)⟩⟩
               ·rw [if_neg c27] at H
                exact absurd H (by simp)
              ·rw [if_neg c26] at H
               exact absurd H (by simp)
            case rest =>
             clear HC24
             try clear c1
             try clear p1
             try clear q1
             try clear hx1
             try clear hf1
             try clear c2
             try clear c2b0
             try clear c2b1
             try clear p2
             try clear c3
             try clear c3b0
             try clear c4
             try clear c4b0
             try clear c5
             try clear c5b0
             try clear c6
             try clear c6b0
             try clear p6
             try clear c7
             try clear c7b0
             try clear c8
             try clear c8b0
             try clear c8b1
             try clear c9
             try clear c9b0
             try clear c9b1
             try clear p10
             try clear q10
             try clear hx10
             try clear c12
             try clear c12b0
             try clear c14
             try clear c14b0
             try clear c15
             try clear c15b0
             try clear c16
             try clear c16b0
             try clear c17
             try clear c17b0
             try clear c17b1
             try clear p18
             try clear q18
             try clear hx18
             try clear hf18
             try clear c19
             try clear c19b0
             try clear c25
             try clear c25b0
             try clear c26
             try clear c26b0
             try clear c27
             try clear c27b0
             try clear hx101_0
             try clear hx105_0
             try clear hx107_0
             try clear hx108_0
             try clear hx18_0
             try clear p1
             try clear p10
             try clear p101
             try clear p105
             try clear p107
             try clear p108
             try clear p18
             try clear p2
             try clear p6
             try clear q1
             try clear q10
             try clear q101
             try clear q105
             try clear q107
             try clear q108
             try clear q18
             obtain ⟨kq, x69_23, rfl, HA, HJ23, HO_6, HB⟩ := hcut
             cases kq with
             | zero => exact absurd HA.out (by simp [treelabel_check.j4])
             | succ kj23 =>
              have H := HA.out
              clear HA
              simp only [treelabel_check.j4] at H
              by_cases c29 : x69_23 = true
              ·subst c29
               have H1 : (treelabel_check.l1 kj23 l0 x6_12 x7_2 (l0.length : Int) (wrap64 (x37_2 + 1))) = some (r1, r2) := by rw [if_pos rfl] at H; exact H
               clear H
               have H := H1
               clear H1
               have H' := Aside0.mk H
               clear H
               go_wp2
               go_roundg kj23
               case measure => have := HK1.out; have := HK2.out; have := HJ12.out; have := HJ23.out; omega
               case rel => exact ⟨(x6_12), (x7_2), (wrap64 (x37_2 + 1)), (by first | rfl | (simp; done) | (simp [*]; done)), (by first | rfl | (simp; done) | (simp [*]; done)), H', ⟨by have := HK1.out; have := HK2.out; have := HJ12.out; have := HJ23.out; omega⟩, ⟨by (with_reducible repeat (first | apply Kd.R_alloc | apply Kd.R_drewN | apply Kd.R_drew)); exact HO_6.out⟩, ⟨by repeat (first | (with_reducible first | exact HB.out | apply below_alloc | apply pw_below_drewN | apply below_drew1) | exact HB.out)⟩⟩
              ·replace c29 := Bool.eq_false_iff.mpr c29
               subst c29
               have H1 : (treelabel_check.l3 kj23 l0 x6_12 x7_2 x9_12 x9_12 true (l0.length : Int) x37_2) = some (r1, r2) := by rw [if_neg (show ¬ (false = true) by decide)] at H; exact H
               clear H
               have H := H1
               clear H1
               have H' := Aside0.mk H
               clear H
               go_wp2
               go_loopg [7, 10, 11] kj23 (fun kq v7 v10 v11 w' => ∃ (x7_5 : Int) (x10_5 : Int) (x11_5 : Bool), v7 = .int .i64 x7_5 ∧ v10 = .int .i64 x10_5 ∧ v11 = .bool x11_5 ∧ Aside0 (treelabel_check.l3 kq l0 x6_12 x7_5 x9_12 x10_5 x11_5 (l0.length : Int) x37_2 = some (r1, r2)) ∧ Aside0 (kq ≤ kj23) ∧ Aside0 (Kd.R (Kd.int .i64) 3 w' w.heap.size (fun _ => True) v103 x6_12) ∧ Aside0 (Below w.heap.size w w'))
               case atStart => exact ⟨(x7_2), (x9_12), (true), (by first | rfl | (simp; done) | (simp [*]; done)), (by first | rfl | (simp; done) | (simp [*]; done)), (by first | rfl | (simp; done) | (simp [*]; done)), H', ⟨Nat.le_refl _⟩, ⟨by (with_reducible repeat (first | apply Kd.R_alloc | apply Kd.R_drewN | apply Kd.R_drew)); exact HO_6.out⟩, ⟨by repeat (first | (with_reducible first | exact HB.out | apply below_alloc | apply pw_below_drewN | apply below_drew1) | exact HB.out)⟩⟩
               case round =>
                clear H'
                try clear c1
                try clear p1
                try clear q1
                try clear hx1
                try clear hf1
                try clear c2
                try clear c2b0
                try clear c2b1
                try clear p2
                try clear c3
                try clear c3b0
                try clear c4
                try clear c4b0
                try clear c5
                try clear c5b0
                try clear c6
                try clear c6b0
                try clear p6
                try clear c7
                try clear c7b0
                try clear c8
                try clear c8b0
                try clear c8b1
                try clear c9
                try clear c9b0
                try clear c9b1
                try clear p10
                try clear q10
                try clear hx10
                try clear c12
                try clear c12b0
                try clear c14
                try clear c14b0
                try clear c15
                try clear c15b0
                try clear c16
                try clear c16b0
                try clear c17
                try clear c17b0
                try clear c17b1
                try clear p18
                try clear q18
                try clear hx18
                try clear hf18
                try clear c19
                try clear c19b0
                try clear c25
                try clear c25b0
                try clear c26
                try clear c26b0
                try clear c27
                try clear c27b0
                try clear c29
                try clear hx101_0
                try clear hx105_0
                try clear hx107_0
                try clear hx108_0
                try clear hx18_0
                try clear p1
                try clear p10
                try clear p101
                try clear p105
                try clear p107
                try clear p108
                try clear p18
                try clear p2
                try clear p6
                try clear q1
                try clear q10
                try clear q101
                try clear q105
                try clear q107
                try clear q108
                try clear q18
                obtain ⟨x7_5, x10_5, x11_5, rfl, rfl, rfl, HA, HK5, HO_6, HB⟩ := hrel
                cases gk with
                | zero => exact absurd HA.out (by simp [treelabel_check.l3])
                | succ k5 =>
                 have H := HA.out
                 clear HA
                 simp only [treelabel_check.l3] at H
                 have HC30 := Aside0.mk H
                 clear H
                 go_upto_region 20 with (fail)
                 go_cut [76] (fun v76 wc => ∃ (kq : Nat) (x76_29 : Bool), v76 = .bool x76_29 ∧ Aside0 (treelabel_check.j6 kq l0 x6_12 x7_5 x9_12 x10_5 (l0.length : Int) x37_2 x76_29 = some (r1, r2)) ∧ Aside0 (kq ≤ k5) ∧ Aside0 (Kd.R (Kd.int .i64) 3 wc w.heap.size (fun _ => True) v103 x6_12) ∧ Aside0 (Below w.heap.size w wc))
                 case first =>
                  have H := HC30.out
                  clear HC30
                  by_cases c31 : x11_5 = true
                  ·subst c31
                   have H1 : (treelabel_check.j6 k5 l0 x6_12 x7_5 x9_12 x10_5 (l0.length : Int) x37_2 true) = some (r1, r2) := by rw [if_pos rfl] at H; exact H
                   clear H
                   have H := H1
                   clear H1
                   have H' := Aside0.mk H
                   clear H
                   go_wp2
                   go_meet
                   case rel => exact ⟨_, (true), (by first | rfl | (simp; done) | (simp [*]; done)), H', ⟨by have := HK1.out; have := HK2.out; have := HJ12.out; have := HJ23.out; have := HK5.out; first | omega | exact Nat.le_refl _⟩, ⟨by (with_reducible repeat (first | apply Kd.R_alloc | apply Kd.R_drewN | apply Kd.R_drew)); exact HO_6.out⟩, ⟨by repeat (first | (with_reducible first | exact HB.out | apply below_alloc | apply pw_below_drewN | apply below_drew1) | exact HB.out)⟩⟩
                  ·replace c31 := Bool.eq_false_iff.mpr c31
                   subst c31
                   have H1 : (treelabel_check.j6 k5 l0 x6_12 x7_5 x9_12 x10_5 (l0.length : Int) x37_2 (x10_5 != x9_12)) = some (r1, r2) := by rw [if_neg (show ¬ (false = true) by decide)] at H; exact H
                   clear H
                   have H := H1
                   clear H1
                   have H' := Aside0.mk H
                   clear H
                   go_wp2
                   go_meet
                   case rel => exact ⟨_, ((x10_5 != x9_12)), (by first | rfl | (simp; done) | (simp [*]; done)), H', ⟨by have := HK1.out; have := HK2.out; have := HJ12.out; have := HJ23.out; have := HK5.out; first | omega | exact Nat.le_refl _⟩, ⟨by (with_reducible repeat (first | apply Kd.R_alloc | apply Kd.R_drewN | apply Kd.R_drew)); exact HO_6.out⟩, ⟨by repeat (first | (with_reducible first | exact HB.out | apply below_alloc | apply pw_below_drewN | apply below_drew1) | exact HB.out)⟩⟩
                 case rest =>
                  clear HC30
                  try clear c1
                  try clear p1
                  try clear q1
                  try clear hx1
                  try clear hf1
                  try clear c2
                  try clear c2b0
                  try clear c2b1
                  try clear p2
                  try clear c3
                  try clear c3b0
                  try clear c4
                  try clear c4b0
                  try clear c5
                  try clear c5b0
                  try clear c6
                  try clear c6b0
                  try clear p6
                  try clear c7
                  try clear c7b0
                  try clear c8
                  try clear c8b0
                  try clear c8b1
                  try clear c9
                  try clear c9b0
                  try clear c9b1
                  try clear p10
                  try clear q10
                  try clear hx10
                  try clear c12
                  try clear c12b0
                  try clear c14
                  try clear c14b0
                  try clear c15
                  try clear c15b0
                  try clear c16
                  try clear c16b0
                  try clear c17
                  try clear c17b0
                  try clear c17b1
                  try clear p18
                  try clear q18
                  try clear hx18
                  try clear hf18
                  try clear c19
                  try clear c19b0
                  try clear c25
                  try clear c25b0
                  try clear c26
                  try clear c26b0
                  try clear c27
                  try clear c27b0
                  try clear c29
                  try clear c31
                  try clear hx101_0
                  try clear hx105_0
                  try clear hx107_0
                  try clear hx108_0
                  try clear hx18_0
                  try clear p1
                  try clear p10
                  try clear p101
                  try clear p105
                  try clear p107
                  try clear p108
                  try clear p18
                  try clear p2
                  try clear p6
                  try clear q1
                  try clear q10
                  try clear q101
                  try clear q105
                  try clear q107
                  try clear q108
                  try clear q18
                  obtain ⟨kq, x76_29, rfl, HA, HJ29, HO_6, HB⟩ := hcut
                  cases kq with
                  | zero => exact absurd HA.out (by simp [treelabel_check.j6])
                  | succ kj29 =>
                   have H := HA.out
                   clear HA
                   simp only [treelabel_check.j6] at H
                   by_cases c32 : x76_29 = true
                   ·subst c32
                    have H1 : (if x7_5 < 0 then (if 0 ≤ x10_5 then (if x10_5 < (l0.length : Int) then (treelabel_check.l3 kj29 l0 x6_12 x10_5 x9_12 (rd l0 x10_5) false (l0.length : Int) x37_2) else (none)) else (none)) else (if x10_5 < x7_5 then (if 0 ≤ x10_5 then (if x10_5 < (l0.length : Int) then (treelabel_check.l3 kj29 l0 x6_12 x10_5 x9_12 (rd l0 x10_5) false (l0.length : Int) x37_2) else (none)) else (none)) else (if 0 ≤ x10_5 then (if x10_5 < (l0.length : Int) then (treelabel_check.l3 kj29 l0 x6_12 x7_5 x9_12 (rd l0 x10_5) false (l0.length : Int) x37_2) else (none)) else (none)))) = some (r1, r2) := by rw [if_pos rfl] at H; exact H
                    clear H
                    have H := H1
                    clear H1
                    by_cases c33 : x7_5 < 0
                    ·rw [if_pos c33] at H
                     have c33b0 : decide (x7_5 < 0) = true := decide_eq_true c33
                     clear c33
                     by_cases c34 : 0 ≤ x10_5
                     ·rw [if_pos c34] at H
                      have c34b0 : decide (0 ≤ x10_5) = true := decide_eq_true c34
                      clear c34
                      by_cases c35 : x10_5 < (l0.length : Int)
                      ·rw [if_pos c35] at H
                       have c35b0 : decide (x10_5 < (l0.length : Int)) = true := decide_eq_true c35
                       clear c35
                       have H' := Aside0.mk H
                       clear H
                       have p109 : 0 ≤ (x10_5 : Int) := of_decide_eq_true (by first | (with_reducible assumption) | assumption)
                       have q109 : x10_5 < (l0.length : Int) := of_decide_eq_true (by first | (with_reducible assumption) | assumption)
                       obtain ⟨ad109, e109, hx109_0⟩ := Kd.at_int HR0.out x10_5 p109 q109
                       cases e109
                       replace hx109_0 := (HB.out.cell (World.block_lt_of_cell? w _ hx109_0)).trans hx109_0
                       replace p109 := eq_true p109
                       replace q109 := eq_true q109
                       go_wp2
                       go_roundg kj29
                       case measure => have := HK1.out; have := HK2.out; have := HJ12.out; have := HJ23.out; have := HK5.out; have := HJ29.out; omega
                       case rel => exact ⟨(x10_5), (rd l0 x10_5), (false), (by first | rfl | (simp; done) | (simp [*]; done)), (by first | rfl | (simp; done) | (simp [*]; done)), (by first | rfl | (simp; done) | (simp [*]; done)), H', ⟨by have := HK1.out; have := HK2.out; have := HJ12.out; have := HJ23.out; have := HK5.out; have := HJ29.out; omega⟩, ⟨by (with_reducible repeat (first | apply Kd.R_alloc | apply Kd.R_drewN | apply Kd.R_drew)); exact HO_6.out⟩, ⟨by repeat (first | (with_reducible first | exact HB.out | apply below_alloc | apply pw_below_drewN | apply below_drew1) | exact HB.out)⟩⟩
                      ·rw [if_neg c35] at H
                       exact absurd H (by simp)
                     ·rw [if_neg c34] at H
                      exact absurd H (by simp)
                    ·rw [if_neg c33] at H
                     have c33b0 : decide (x7_5 < 0) = false := decide_eq_false c33
                     clear c33
                     by_cases c36 : x10_5 < x7_5
                     ·rw [if_pos c36] at H
                      have c36b0 : decide (x10_5 < x7_5) = true := decide_eq_true c36
                      clear c36
                      by_cases c37 : 0 ≤ x10_5
                      ·rw [if_pos c37] at H
                       have c37b0 : decide (0 ≤ x10_5) = true := decide_eq_true c37
                       clear c37
                       by_cases c38 : x10_5 < (l0.length : Int)
                       ·rw [if_pos c38] at H
                        have c38b0 : decide (x10_5 < (l0.length : Int)) = true := decide_eq_true c38
                        clear c38
                        have H' := Aside0.mk H
                        clear H
                        have p110 : 0 ≤ (x10_5 : Int) := of_decide_eq_true (by first | (with_reducible assumption) | assumption)
                        have q110 : x10_5 < (l0.length : Int) := of_decide_eq_true (by first | (with_reducible assumption) | assumption)
                        obtain ⟨ad110, e110, hx110_0⟩ := Kd.at_int HR0.out x10_5 p110 q110
                        cases e110
                        replace hx110_0 := (HB.out.cell (World.block_lt_of_cell? w _ hx110_0)).trans hx110_0
                        replace p110 := eq_true p110
                        replace q110 := eq_true q110
                        go_wp2
                        go_roundg kj29
                        case measure => have := HK1.out; have := HK2.out; have := HJ12.out; have := HJ23.out; have := HK5.out; have := HJ29.out; omega
                        case rel => exact ⟨(x10_5), (rd l0 x10_5), (false), (by first | rfl | (simp; done) | (simp [*]; done)), (by first | rfl | (simp; done) | (simp [*]; done)), (by first | rfl | (simp; done) | (simp [*]; done)), H', ⟨by have := HK1.out; have := HK2.out; have := HJ12.out; have := HJ23.out; have := HK5.out; have := HJ29.out; omega⟩, ⟨by (with_reducible repeat (first | apply Kd.R_alloc | apply Kd.R_drewN | apply Kd.R_drew)); exact HO_6.out⟩, ⟨by repeat (first | (with_reducible first | exact HB.out | apply below_alloc | apply pw_below_drewN | apply below_drew1) | exact HB.out)⟩⟩
                       ·rw [if_neg c38] at H
                        exact absurd H (by simp)
                      ·rw [if_neg c37] at H
                       exact absurd H (by simp)
                     ·rw [if_neg c36] at H
                      have c36b0 : decide (x10_5 < x7_5) = false := decide_eq_false c36
                      clear c36
                      by_cases c39 : 0 ≤ x10_5
                      ·rw [if_pos c39] at H
                       have c39b0 : decide (0 ≤ x10_5) = true := decide_eq_true c39
                       clear c39
                       by_cases c40 : x10_5 < (l0.length : Int)
                       ·rw [if_pos c40] at H
                        have c40b0 : decide (x10_5 < (l0.length : Int)) = true := decide_eq_true c40
                        clear c40
                        have H' := Aside0.mk H
                        clear H
                        have p111 : 0 ≤ (x10_5 : Int) := of_decide_eq_true (by first | (with_reducible assumption) | assumption)
                        have q111 : x10_5 < (l0.length : Int) := of_decide_eq_true (by first | (with_reducible assumption) | assumption)
                        obtain ⟨ad111, e111, hx111_0⟩ := Kd.at_int HR0.out x10_5 p111 q111
                        cases e111
                        replace hx111_0 := (HB.out.cell (World.block_lt_of_cell? w _ hx111_0)).trans hx111_0
                        replace p111 := eq_true p111
                        replace q111 := eq_true q111
                        go_wp2
                        go_roundg kj29
                        case measure => have := HK1.out; have := HK2.out; have := HJ12.out; have := HJ23.out; have := HK5.out; have := HJ29.out; omega
                        case rel => exact ⟨(x7_5), (rd l0 x10_5), (false), (by first | rfl | (simp; done) | (simp [*]; done)), (by first | rfl | (simp; done) | (simp [*]; done)), (by first | rfl | (simp; done) | (simp [*]; done)), H', ⟨by have := HK1.out; have := HK2.out; have := HJ12.out; have := HJ23.out; have := HK5.out; have := HJ29.out; omega⟩, ⟨by (with_reducible repeat (first | apply Kd.R_alloc | apply Kd.R_drewN | apply Kd.R_drew)); exact HO_6.out⟩, ⟨by repeat (first | (with_reducible first | exact HB.out | apply below_alloc | apply pw_below_drewN | apply below_drew1) | exact HB.out)⟩⟩
                       ·rw [if_neg c40] at H
                        exact absurd H (by simp)
                      ·rw [if_neg c39] at H
                       exact absurd H (by simp)
                   ·replace c32 := Bool.eq_false_iff.mpr c32
                    subst c32
                    have H1 : (treelabel_check.l1 kj29 l0 x6_12 x7_5 (l0.length : Int) (wrap64 (x37_2 + 1))) = some (r1, r2) := by rw [if_neg (show ¬ (false = true) by decide)] at H; exact H
                    clear H
                    have H := H1
                    clear H1
                    have H' := Aside0.mk H
                    clear H
                    go_wp2
                    go_roundg kj29
                    case measure => have := HK1.out; have := HK2.out; have := HJ12.out; have := HJ23.out; have := HK5.out; have := HJ29.out; omega
                    case rel => exact ⟨(x6_12), (x7_5), (wrap64 (x37_2 + 1)), (by first | rfl | (simp; done) | (simp [*]; done)), (by first | rfl | (simp; done) | (simp [*]; done)), H', ⟨by have := HK1.out; have := HK2.out; have := HJ12.out; have := HJ23.out; have := HK5.out; have := HJ29.out; omega⟩, ⟨by (with_reducible repeat (first | apply Kd.R_alloc | apply Kd.R_drewN | apply Kd.R_drew)); exact HO_6.out⟩, ⟨by repeat (first | (with_reducible first | exact HB.out | apply below_alloc | apply pw_below_drewN | apply below_drew1) | exact HB.out)⟩⟩
         ·rw [if_neg c12] at H
          have c12b0 : decide (x37_2 < (l0.length : Int)) = false := decide_eq_false c12
          clear c12
          by_cases c41 : x7_2 ≥ 0
          ·rw [if_pos c41] at H
           have c41b0 : decide (0 ≤ x7_2) = true := decide_eq_true c41
           clear c41
           simp only [Option.some.injEq, Prod.mk.injEq] at H
           obtain ⟨rfl, rfl⟩ := H
           go_wp2
           go_ret2
           exact ⟨by first | rfl | (simp [errW_none, errW_some] <;> rfl) | (simp [*, errW_none, errW_some] <;> rfl), by repeat (first | (with_reducible first | exact HB.out | apply below_alloc | apply pw_below_drewN | apply below_drew1) | exact HB.out)⟩
          ·rw [if_neg c41] at H
           have c41b0 : decide (0 ≤ x7_2) = false := decide_eq_false c41
           clear c41
           simp only [Option.some.injEq, Prod.mk.injEq] at H
           obtain ⟨rfl, rfl⟩ := H
           go_wp2
           go_ret2
           exact ⟨by first | rfl | (simp [errW_none, errW_some] <;> rfl) | (simp [*, errW_none, errW_some] <;> rfl), by repeat (first | (with_reducible first | exact HB.out | apply below_alloc | apply pw_below_drewN | apply below_drew1) | exact HB.out)⟩
      ·rw [if_neg c9] at H
       exact absurd H (by simp)
     ·rw [if_neg c8] at H
      exact absurd H (by simp)

end Go.Proofs.Ythjcmodhleoocaa.Q
/- FTreelabelAssign -/
namespace Go.Proofs.Ythjcmodhleoocaa.Q
open Go.RowKit Go.Proofs.YthjcmodhleoocaaW.PrintWords Go.Proofs.YthjcmodhleoocaaW.PrintLast Go.Proofs.YthjcmodhleoocaaW.PrintMore
attribute [local go_sem] max2_int min2_int max_two min_two max_three min_three max_four min_four   -- for this text's walks alone
set_option linter.unusedVariables false
set_option linter.unusedSimpArgs false

/-! ### treelabel_Assign: function 11 -/
open Go.Proofs.Ythjcmodhleoocaa.TP in
/-- The loop over the roots: the numbering of their trees. -/
def treelabel_Assign.l1 (k : Nat) (x55 : List Int) (_ _ : Int) (ch : List (List Int)) (y : List S41) (_ _ : Int) : Option ((List (S41)) × Int × Int) :=
 if (∀ c ∈ ch, ∀ x ∈ c, (0 : Int) ≤ x) ∧ (∀ x ∈ x55, (0 : Int) ≤ x) ∧ ch.length = y.length ∧ y.length ≤ 1000000 ∧ (∀ c ∈ ch, c.length ≤ 1000000) ∧ x55.length ≤ 1000000 then
  match (x55.map Int.toNat).foldlM (fun s c => vis (kdc ch) (lim k) c 0 s) (blank y.length) with
  | some t => if t.pre ≤ 1000000 ∧ t.post ≤ 1000000 then some (t.L.map lab41, 0, 0) else none
  | none => none
 else none
theorem treelabel_Assign.l1_mono (k : Nat) (a : List Int) (b c : Int) (ch : List (List Int)) (y : List S41) (d e : Int) : LeO (treelabel_Assign.l1 k a b c ch y d e) (treelabel_Assign.l1 (k + 1) a b c ch y d e) := by
 intro r h
 unfold treelabel_Assign.l1 at h ⊢
 split at h
 case isFalse => cases h
 case isTrue hc =>
 rw [if_pos hc]
 cases hf : (a.map Int.toNat).foldlM (fun s c => TP.vis (kdc ch) (TP.lim k) c 0 s) (blank y.length) with
 | none => rw [hf] at h; cases h
 | some t => rw [hf] at h; rw [TP.fold_lim hf]; exact h
def treelabel_Assign.l0 : Nat → List Int → List Int → Int → Int → List (List Int) → List (S41) → Int → Int → Option ((List (S41)) × Int × Int)
 | 0, _, _, _, _, _, _, _, _ => none
 | k + 1, x8, x29, x30, x31, x121000, x121001, x121002, x121003 => if x31 < x30 then (if 0 ≤ x31 then (if x31 < (x29.length : Int) then (if (rd x29 x31) < 0 then (if x8.length < 17592186044416 then (treelabel_Assign.l0 k (x8 ++ [x31]) x29 x30 (wrap64 (x31 + 1)) x121000 x121001 x121002 x121003) else (none)) else (if 0 ≤ (rd x29 x31) then (if (rd x29 x31) < (x121000.length : Int) then (if (rd_L1 x121000 (rd x29 x31)).length < 17592186044416 then (treelabel_Assign.l0 k x8 x29 x30 (wrap64 (x31 + 1)) (x121000.set ((rd x29 x31) : Int).toNat ((rd_L1 x121000 (rd x29 x31)) ++ [x31])) x121001 x121002 x121003) else (none)) else (none)) else (none))) else (none)) else (none)) else (treelabel_Assign.l1 k x8 (x8.length : Int) 0 x121000 x121001 x121002 x121003)
def treelabel_Assign.f (k : Nat) (l0 : List Int) : Option ((List (S41)) × Int × Int) := (treelabel_check.f k l0).bind fun bt112 => (if bt112.2 = 0 then (if 0 ≤ (l0.length : Int) then (if ((l0.length : Int) : Int).toNat ≤ 11728124029610 then (treelabel_Assign.l0 k ([] : List Int) l0 (l0.length : Int) 0 (List.replicate ((l0.length : Int) : Int).toNat []) (List.replicate ((l0.length : Int) : Int).toNat z41) 0 0) else (none)) else (none)) else (some (([] : List (S41)), bt112.1, bt112.2)))
theorem treelabel_Assign.mono_l : ∀ k, (∀ y0 y1 y2 y3 y4 y5 y6 y7, LeO (treelabel_Assign.l0 k y0 y1 y2 y3 y4 y5 y6 y7) (treelabel_Assign.l0 (k + 1) y0 y1 y2 y3 y4 y5 y6 y7))
 | 0 => fun _ _ _ _ _ _ _ _ r h => by simp [treelabel_Assign.l0] at h
 | k + 1 => by
  have ih0 := treelabel_Assign.mono_l k
  ·intro y0 y1 y2 y3 y4 y5 y6 y7
   unfold treelabel_Assign.l0
   repeat' first
   | (with_reducible exact ih0 _ _ _ _ _ _ _ _)
   | (with_reducible exact treelabel_Assign.l1_mono _ _ _ _ _ _ _ _)
   | (with_reducible exact LeO.refl _)
   | (with_reducible exact LeO.none _)
   | (with_reducible refine LeO.ite ?_ ?_)
   | (with_reducible refine LeO.bind ?_ (fun _ => ?_))
theorem treelabel_Assign.mono : ∀ a0 k, LeO (treelabel_Assign.f k a0) (treelabel_Assign.f (k + 1) a0) := by
 intro a0 k
 have ih0 := treelabel_Assign.mono_l k
 unfold treelabel_Assign.f
 repeat' first
   | (with_reducible exact ih0 _ _ _ _ _ _ _ _)
   | (with_reducible exact treelabel_check.mono _ _)
   | (with_reducible exact LeO.refl _)
   | (with_reducible exact LeO.none _)
   | (with_reducible refine LeO.ite ?_ ?_)
   | (with_reducible refine LeO.bind ?_ (fun _ => ?_))
def treelabel_Assign.T4 : Bool × List (List Nat × List Nat) := (true, [([], []), ([0], [0]), ([1, 1], [1]), ([], []), ([3], [3]), ([4, 4], [4]), ([2, 5], [2, 5]), ([], []), ([7, 6, 0, 1, 2, 3, 4, 5, 6, 7], [6, 7])])
def treelabel_Assign.B4 : List Nat := [0, 1, 3, 0, 8, 24, 63, 0, 255]
theorem treelabel_Assign.tab4 : rtab .any (opsOf Try.f11 4) = treelabel_Assign.T4 := by kernel_rfl
theorem treelabel_Assign.bits4 : waitsOk treelabel_Assign.T4.2 treelabel_Assign.B4 = true := by kernel_rfl
def treelabel_Assign.T11 : Bool × List (List Nat × List Nat) := (true, [([], []), ([0], [0]), ([], []), ([], []), ([3], [3]), ([], []), ([4, 5], [4, 5]), ([6], [6]), ([], []), ([8], [8]), ([7, 9], [7, 9]), ([1, 2, 0, 1, 2, 3, 4, 5, 6, 7, 8, 9, 10], [1, 2]), ([11, 10, 10, 0, 1, 2, 3, 4, 5, 6, 7, 8, 9, 10], [10, 11])])
def treelabel_Assign.B11 : List Nat := [0, 1, 0, 0, 8, 0, 56, 120, 0, 256, 1016, 2047, 4095]
theorem treelabel_Assign.tab11 : rtab .any (opsOf Try.f11 11) = treelabel_Assign.T11 := by kernel_rfl
theorem treelabel_Assign.bits11 : waitsOk treelabel_Assign.T11.2 treelabel_Assign.B11 = true := by kernel_rfl
set_option maxHeartbeats 8000000 in
set_option maxRecDepth 100000 in
theorem treelabel_Assign.calls (k : Nat) (A0 : Option Addr) (c0 : Nat) (l0 : List Int) (r1 : List (S41)) (r2 : Int) (r3 : Int) (w : World) (hr0 : Kd.C (Kd.int .i64) w A0 l0.length l0) (hc0 : l0.length ≤ c0) (h : treelabel_Assign.f k l0 = some (r1, r2, r3)) :
  Calls Try.prog 11 #[.slice A0 l0.length c0] w fun e w' => ∃ v0_ : Value, e = .returned (.tuple #[v0_, .int .i64 r2, .int .i64 r3]) ∧ Kd.R k41 41 w' w.heap.size (fun _ => True) v0_ r1 ∧ Below w.heap.size w w' := by
 have hu56 := Try.underlying56
 have HR0 := Aside0.mk hr0
 have HC0 := Aside0.mk hc0
 clear hr0 hc0
 have HB := Aside0.mk (Below.refl w.heap.size w)
 have H : ((treelabel_check.f k l0).bind fun bt112 => (if bt112.2 = 0 then (if 0 ≤ (l0.length : Int) then (if ((l0.length : Int) : Int).toNat ≤ 11728124029610 then (treelabel_Assign.l0 k ([] : List Int) l0 (l0.length : Int) 0 (List.replicate ((l0.length : Int) : Int).toNat []) (List.replicate ((l0.length : Int) : Int).toNat z41) 0 0) else (none)) else (none)) else (some (([] : List (S41)), bt112.1, bt112.2)))) = some (r1, r2, r3) := h
 clear h
 replace H := Option.bind_eq_some_iff.mp H
 obtain ⟨⟨t112, t113⟩, A20, H⟩ := H
 replace H : (if t113 = 0 then (if 0 ≤ (l0.length : Int) then (if ((l0.length : Int) : Int).toNat ≤ 11728124029610 then (treelabel_Assign.l0 k ([] : List Int) l0 (l0.length : Int) 0 (List.replicate ((l0.length : Int) : Int).toNat []) (List.replicate ((l0.length : Int) : Int).toNat z41) 0 0) else (none)) else (none)) else (some (([] : List (S41)), t112, t113))) = some (r1, r2, r3) := H
 have A2 := Aside0.mk A20
 clear A20
 by_cases c3 : t113 = 0
 ·rw [if_pos c3] at H
  have c3b0 : (t113 == 0) = true := beq_iff_eq.mpr c3
  have c3b1 : (t113 != 0) = false := bne_eq_false_iff_eq.mpr c3
  clear c3
  by_cases c4 : 0 ≤ (l0.length : Int)
  ·rw [if_pos c4] at H
   have c4b0 := eq_true c4
   have c4b1 : decide (0 ≤ (l0.length : Int)) = true := decide_eq_true c4
   clear c4
   by_cases c5 : ((l0.length : Int) : Int).toNat ≤ 11728124029610
   ·rw [if_pos c5] at H
    have c5b0 := eq_true c5
    have c5b1 : decide (((l0.length : Int) : Int).toNat ≤ 11728124029610) = true := decide_eq_true c5
    clear c5
    obtain ⟨y114, hy114⟩ : ∃ y_ : List (List Int), y_ = (List.replicate ((l0.length : Int) : Int).toNat []) := ⟨_, rfl⟩
    replace H : (treelabel_Assign.l0 k ([] : List Int) l0 (l0.length : Int) 0 y114 (List.replicate ((l0.length : Int) : Int).toNat z41) 0 0) = some (r1, r2, r3) := by first | (rw [hy114]; with_reducible exact H) | (have H2_ := (Option.bind_some _ _).symm.trans H; rw [hy114]; with_reducible exact H2_) | (have H2_ := (Option.bind_some _ _).symm.trans H; with_reducible exact H2_) | with_reducible exact H | (rw [hy114]; exact H) | exact H
    have Ny114 := Aside0.mk hy114
    clear hy114
    obtain ⟨y117, hy117⟩ : ∃ y_ : List (S41), y_ = (List.replicate ((l0.length : Int) : Int).toNat z41) := ⟨_, rfl⟩
    replace H : (treelabel_Assign.l0 k ([] : List Int) l0 (l0.length : Int) 0 y114 y117 0 0) = some (r1, r2, r3) := by first | (rw [hy117]; with_reducible exact H) | (have H2_ := (Option.bind_some _ _).symm.trans H; rw [hy117]; with_reducible exact H2_) | (have H2_ := (Option.bind_some _ _).symm.trans H; with_reducible exact H2_) | with_reducible exact H | (rw [hy117]; exact H) | exact H
    have Ny117 := Aside0.mk hy117
    clear hy117
    have H' := Aside0.mk H
    clear H
    go_enter Try.func11, Try.ntmps11
    try go_wp2_with (first | ((with_reducible refine gate_callee (f := 31) rfl ?_); refine goesL_ (some 15) rfl rfl Try.func31 (by kernel_rfl) rfl #[.slice A0 l0.length c0] rfl (by (try simp only [List.map_toArray, List.map_cons, List.map_nil]); first | done | rfl | (simp only [List.length_drop, List.length_take]; rfl)) ?_; (with_reducible refine (treelabel_check.calls k _ _ l0 t112 t113 _ ?side1 ?side2 A2.out).mono ?_); (case side1 => repeat (first | exact HR0.out | (with_reducible refine Kd.C_alloc ?_ _) | (with_reducible refine Kd.C_drewN ?_ _) | (with_reducible refine Kd.C_drew ?_))); (case side2 => exact HC0.out); rintro e w6 ⟨rfl, hb⟩; refine ⟨_, rfl, ?_⟩; have n0_ := Aside0.mk (below_step (by repeat (first | (with_reducible first | exact HB.out | apply below_alloc | apply pw_below_drewN | apply below_drew1) | exact HB.out)) hb); clear HB; have HB := n0_; clear n0_; (try clear hb); (try clear hb2); (try clear hk); (try clear hi)))
    have n0_ := Aside0.mk (below_drew1 HB.out)
    clear HB
    have HB := n0_
    clear n0_
    refine start_ (n := 9) (S := fun w' => True) (ds := []) #[false, false, false, false, false, false, false, false, false] (by kernel_rfl) rfl rfl trivial (fun hHeld => ?_); refine with_tabW treelabel_Assign.tab4 treelabel_Assign.bits4 (fun HT_ HW_ => ?_)
    generalize w6.drew = w7 at HB hHeld ⊢
    refine pure_ (i := 0) (N := some 22) (v := ?_) (a' := ?_) #[true, false, false, false, false, false, false, false, false] rfl rfl (any_of HT_.out (by kernel_rfl)) (fun _ _ _ h => h) (Or.inl ⟨by rfl, ?_⟩) ?_ ?_
    rotate_left
    ·intro w'
     go_simp
     with_reducible rfl
    rotate_left
    ·simp only [Act.put, List.setIfInBounds_toArray, List.set_cons_zero, List.set_cons_succ, i64_w, i32_w]
     rfl
    refine pure_ (i := 1) (N := some 23) (v := ?_) (a' := ?_) #[true, true, false, false, false, false, false, false, false] rfl rfl (any_of HT_.out (by kernel_rfl)) (fun _ _ _ h => h) (Or.inl ⟨by rfl, ?_⟩) ?_ ?_
    rotate_left
    ·intro w'
     go_simp
     with_reducible rfl
    rotate_left
    ·simp only [Act.put, List.setIfInBounds_toArray, List.set_cons_zero, List.set_cons_succ, i64_w, i32_w]
     rfl
    refine pure_ (i := 3) (N := some 25) (v := ?_) (a' := ?_) #[true, true, false, true, false, false, false, false, false] rfl rfl (any_of HT_.out (by kernel_rfl)) (fun _ _ _ h => h) (Or.inl ⟨by rfl, ?_⟩) ?_ ?_
    rotate_left
    ·intro w'
     go_simp
     with_reducible rfl
    rotate_left
    ·simp only [Act.put, List.setIfInBounds_toArray, List.set_cons_zero, List.set_cons_succ, i64_w, i32_w]
     rfl
    refine pure_ (i := 4) (N := some 26) (v := ?_) (a' := ?_) #[true, true, false, true, true, false, false, false, false] rfl rfl (any_of HT_.out (by kernel_rfl)) (fun _ _ _ h => h) (Or.inl ⟨by rfl, ?_⟩) ?_ ?_
    rotate_left
    ·intro w'
     go_simp
     with_reducible rfl
    rotate_left
    ·simp only [Act.put, List.setIfInBounds_toArray, List.set_cons_zero, List.set_cons_succ, i64_w, i32_w]
     rfl
    refine join_ (σ := Value × Value × Nat) 1 #[true, true, true, true, true, true, true, true, false] (fun s_ => [(24, s_.1), (27, s_.2.1), (7, .pointer (some ⟨s_.2.2, 0, none⟩)), (28, .agg #[s_.1, s_.2.1, .int .i64 0, .int .i64 0])]) (fun s_ w' => (Kd.S (Kd.slice 3 (Kd.int .i64)) 22 w' w.heap.size (fun _ => True) s_.1 y114) ∧ (Kd.R k41 41 w' w.heap.size (fun _ => True) s_.2.1 y117) ∧ (w'.heap[s_.2.2]? = some (.cells #[.slice none 0 0, .slice none 0 0, .int .i64 0, .int .i64 0] 56 (0, 0))) ∧ (w.heap.size ≤ s_.2.2) ∧ (w.heap.size ≤ s_.2.2) ∧ (Below w.heap.size w w')) ?_ ?_
    rotate_left
    ·intro hJ2_5_7
     refine join_ (σ := Value × Value) 2 #[true, true, true, true, true, true, true, false, false] (fun s_ => [(24, s_.1), (27, s_.2), (28, .agg #[s_.1, s_.2, .int .i64 0, .int .i64 0])]) (fun s_ w' => (Kd.S (Kd.slice 3 (Kd.int .i64)) 22 w' w.heap.size (fun _ => True) s_.1 y114) ∧ (Kd.R k41 41 w' w.heap.size (fun _ => True) s_.2 y117) ∧ (Below w.heap.size w w')) ?_ ?_
     rotate_left
     ·intro hJ2_5
      refine join_ (σ := Value × Nat) 3 #[true, true, true, true, true, false, false, true, false] (fun s_ => [(24, s_.1), (7, .pointer (some ⟨s_.2, 0, none⟩))]) (fun s_ w' => (Kd.S (Kd.slice 3 (Kd.int .i64)) 22 w' w.heap.size (fun _ => True) s_.1 y114) ∧ (w'.heap[s_.2]? = some (.cells #[.slice none 0 0, .slice none 0 0, .int .i64 0, .int .i64 0] 56 (0, 0))) ∧ (w.heap.size ≤ s_.2) ∧ (w.heap.size ≤ s_.2) ∧ (Below w.heap.size w w')) ?_ ?_
      rotate_left
      ·intro hJ2_7
       refine join_ (σ := Value × Nat) 3 #[true, true, false, true, true, true, false, true, false] (fun s_ => [(27, s_.1), (7, .pointer (some ⟨s_.2, 0, none⟩))]) (fun s_ w' => (Kd.R k41 41 w' w.heap.size (fun _ => True) s_.1 y117) ∧ (w'.heap[s_.2]? = some (.cells #[.slice none 0 0, .slice none 0 0, .int .i64 0, .int .i64 0] 56 (0, 0))) ∧ (w.heap.size ≤ s_.2) ∧ (w.heap.size ≤ s_.2) ∧ (Below w.heap.size w w')) ?_ ?_
       rotate_left
       ·intro hJ5_7
        refine join_ (σ := Value) 4 #[true, true, true, true, true, false, false, false, false] (fun s_ => [(24, s_)]) (fun s_ w' => (Kd.S (Kd.slice 3 (Kd.int .i64)) 22 w' w.heap.size (fun _ => True) s_ y114) ∧ (Below w.heap.size w w')) ?_ ?_
        rotate_left
        ·intro hJ2
         refine join_ (σ := Value) 4 #[true, true, false, true, true, true, false, false, false] (fun s_ => [(27, s_)]) (fun s_ w' => (Kd.R k41 41 w' w.heap.size (fun _ => True) s_ y117) ∧ (Below w.heap.size w w')) ?_ ?_
         rotate_left
         ·intro hJ5
          refine join_ (σ := Nat) 4 #[true, true, false, true, true, false, false, true, false] (fun s_ => [(7, .pointer (some ⟨s_, 0, none⟩))]) (fun s_ w' => (w'.heap[s_]? = some (.cells #[.slice none 0 0, .slice none 0 0, .int .i64 0, .int .i64 0] 56 (0, 0))) ∧ (w.heap.size ≤ s_) ∧ (w.heap.size ≤ s_) ∧ (Below w.heap.size w w')) ?_ ?_
          rotate_left
          ·intro hJ7
           refine three_ (i := 2) (j := 5) (k := 7) (Ni := some 24) (Nj := some 27) (Nk := some 7) #[true, true, true, true, true, false, false, false, false] #[true, true, false, true, true, true, false, false, false] #[true, true, false, true, true, false, false, true, false] rfl rfl rfl rfl rfl rfl (three_of HT_.out (by kernel_rfl)) (by decide) (by decide) (by decide) (fun K hK => ?_) (fun K hK => ?_) (fun K hK => ?_)
           ·skip
            refine Kd.S_make_step (Kd.slice 3 (Kd.int .i64)) _ 22 (by rfl) (N := 24) rfl 54 _ _ rfl (l0.length : Int) rfl rfl Try.underlying54 (.slice none 0 0) 24 info22 rfl (by decide) (by omega) [] (ok := fun _ => True) (okp := fun _ => True) ⟨_, rfl, Kd.R_nil _ _ _ _ _⟩ (fun _ hk => hk) trivial (of_decide_eq_true (by first | (with_reducible assumption) | assumption)) (Nat.le_trans (Nat.mul_le_mul_right _ (of_decide_eq_true (by first | (with_reducible assumption) | assumption) : (l0.length : Int).toNat ≤ 11728124029610)) (by omega)) (Below.refl _ _) (Nat.le_refl _) ?_
            intro v115 w8 ho9 hb hg_ hnew_
            clear hg_ hnew_
            (first | rw [← Ny114.out] at ho9 | (simp only [Int.reduceToNat] at ho9; rw [← Ny114.out] at ho9))
            have n0_ := Aside0.mk (Kd.S_lower ho9 (below_size (by repeat (first | (with_reducible first | exact HB.out | apply below_alloc | apply pw_below_drewN | apply below_drew1) | exact HB.out))))
            have n1_ := Aside0.mk (below_step (by repeat (first | (with_reducible first | exact HB.out | apply below_alloc | apply pw_below_drewN | apply below_drew1) | exact HB.out)) hb)
            clear HB
            have HO116 := n0_
            have HB := n1_
            clear n0_ n1_
            clear hb ho9
            refine hK.out _ _ trivial (fun hHeld => ?_)
            clear hK K
            refine norm_ (a' := ?_) ?_ ?_
            rotate_left
            ·show Act.put _ (some 24) _ = _
             simp only [Act.put, List.setIfInBounds_toArray, List.set_cons_zero, List.set_cons_succ, i64_w, i32_w]
             rfl
            exact norm_ (by first | (simp only [putAll, Act.put, List.setIfInBounds_toArray, List.set_cons_zero, List.set_cons_succ]; done) | (simp only [putAll, Act.put, List.setIfInBounds_toArray, List.set_cons_zero, List.set_cons_succ]; rfl)) (hJ2 (v115) _ ⟨(by (with_reducible repeat (first | apply Kd.S_alloc | apply Kd.S_drewN | apply Kd.S_drew)); exact HO116.out), (by repeat (first | (with_reducible first | exact HB.out | apply below_alloc | apply pw_below_drewN | apply below_drew1) | exact HB.out))⟩)
           ·skip
            refine Kd.R_make_step k41 _ 41 (by rfl) (N := 27) rfl 23 _ _ rfl (l0.length : Int) rfl rfl Try.underlying23 (.agg #[(.int .i64 0), (.int .i64 0), (.int .i64 0)]) 24 info41 rfl (by decide) (by omega) z41 (ok := fun _ => True) (okp := fun _ => True) (k41_mkM _ _ _ z41 ) (fun _ hk => hk) trivial (of_decide_eq_true (by first | (with_reducible assumption) | assumption)) (Nat.le_trans (Nat.mul_le_mul_right _ (of_decide_eq_true (by first | (with_reducible assumption) | assumption) : (l0.length : Int).toNat ≤ 11728124029610)) (by omega)) (Below.refl _ _) (Nat.le_refl _) ?_
            intro v118 w8 ho9 hb hg_ hnew_
            clear hg_ hnew_
            (first | rw [← Ny117.out] at ho9 | (simp only [Int.reduceToNat] at ho9; rw [← Ny117.out] at ho9))
            have n0_ := Aside0.mk (Kd.R_lower ho9 (below_size (by repeat (first | (with_reducible first | exact HB.out | apply below_alloc | apply pw_below_drewN | apply below_drew1) | exact HB.out))))
            have n1_ := Aside0.mk (below_step (by repeat (first | (with_reducible first | exact HB.out | apply below_alloc | apply pw_below_drewN | apply below_drew1) | exact HB.out)) hb)
            clear HB
            have HO119 := n0_
            have HB := n1_
            clear n0_ n1_
            clear hb ho9
            refine hK.out _ _ trivial (fun hHeld => ?_)
            clear hK K
            refine norm_ (a' := ?_) ?_ ?_
            rotate_left
            ·show Act.put _ (some 27) _ = _
             simp only [Act.put, List.setIfInBounds_toArray, List.set_cons_zero, List.set_cons_succ, i64_w, i32_w]
             rfl
            exact norm_ (by first | (simp only [putAll, Act.put, List.setIfInBounds_toArray, List.set_cons_zero, List.set_cons_succ]; done) | (simp only [putAll, Act.put, List.setIfInBounds_toArray, List.set_cons_zero, List.set_cons_succ]; rfl)) (hJ5 (v118) _ ⟨(by (with_reducible repeat (first | apply Kd.R_alloc | apply Kd.R_drewN | apply Kd.R_drew)); exact HO119.out), (by repeat (first | (with_reducible first | exact HB.out | apply below_alloc | apply pw_below_drewN | apply below_drew1) | exact HB.out))⟩)
           ·skip
            refine box_step ?hg (N := 7) ?hd (cs := #[.slice none 0 0, .slice none 0 0, .int .i64 0, .int .i64 0]) (t := 56) ?hr ?_; (case hd => rfl); (case hg => rfl); (case hr => first | (go_simp; done) | (go_simp; rfl))
            intro gb120 hg w8 hbox hb
            have n0_ := Aside0.mk (below_step (by repeat (first | (with_reducible first | exact HB.out | apply below_alloc | apply pw_below_drewN | apply below_drew1) | exact HB.out)) hb)
            have n1_ := Aside0.mk (hbox)
            have n2_ := Aside0.mk ((by rw [hg]; exact (below_size (by repeat (first | (with_reducible first | exact HB.out | apply below_alloc | apply pw_below_drewN | apply below_drew1) | exact HB.out))) : w.heap.size ≤ gb120))
            have n3_ := Aside0.mk ((by rw [hg]; exact (below_size (by repeat (first | (with_reducible first | exact HB.out | apply below_alloc | apply pw_below_drewN | apply below_drew1) | exact HB.out))) : w.heap.size ≤ gb120))
            clear HB
            have HB := n0_
            have BK120 := n1_
            have GW120 := n2_
            have GE120 := n3_
            clear n0_ n1_ n2_ n3_
            clear hb hbox hg
            refine hK.out _ _ trivial (fun hHeld => ?_)
            clear hK K
            refine norm_ (a' := ?_) ?_ ?_
            rotate_left
            ·show Act.put _ (some 7) _ = _
             simp only [Act.put, List.setIfInBounds_toArray, List.set_cons_zero, List.set_cons_succ, i64_w, i32_w]
             rfl
            exact norm_ (by first | (simp only [putAll, Act.put, List.setIfInBounds_toArray, List.set_cons_zero, List.set_cons_succ]; done) | (simp only [putAll, Act.put, List.setIfInBounds_toArray, List.set_cons_zero, List.set_cons_succ]; rfl)) (hJ7 (gb120) _ ⟨(by (with_reducible repeat (first | refine blk_drewN ?_ _ | refine blk_drew ?_ | refine blk_alloc ?_ _)); exact BK120.out), GW120.out, GE120.out, (by repeat (first | (with_reducible first | exact HB.out | apply below_alloc | apply pw_below_drewN | apply below_drew1 | refine below_set ?_ GE120.out) | exact HB.out))⟩)
          ·skip
           rintro gb120 w9 ⟨h0_, h1_, h2_, h3_⟩
           have n0_ : Aside0 (w9.heap[gb120]? = some (.cells #[.slice none 0 0, .slice none 0 0, .int .i64 0, .int .i64 0] 56 (0, 0))) := ⟨h0_⟩
           have n1_ : Aside0 (w.heap.size ≤ gb120) := ⟨h1_⟩
           have n2_ : Aside0 (w.heap.size ≤ gb120) := ⟨h2_⟩
           have n3_ : Aside0 (Below w.heap.size w w9) := ⟨h3_⟩
           clear HB
           clear h0_ h1_ h2_ h3_
           have BK120 := n0_
           have GW120 := n1_
           have GE120 := n2_
           have HB := n3_
           clear n0_ n1_ n2_ n3_
           have hHeld := trivial
           refine norm_ (a' := ?_) ?_ ?_
           rotate_left
           ·simp only [putAll, Act.put, List.setIfInBounds_toArray, List.set_cons_zero, List.set_cons_succ]
            rfl
           refine two_ (i := 2) (j := 5) (Ni := some 24) (Nj := some 27) #[true, true, true, true, true, false, false, true, false] #[true, true, false, true, true, true, false, true, false] rfl rfl rfl rfl (two_of HT_.out (by kernel_rfl)) (by decide) (by decide) (fun K hK => ?_) (fun K hK => ?_)
           ·skip
            refine Kd.S_make_step (Kd.slice 3 (Kd.int .i64)) _ 22 (by rfl) (N := 24) rfl 54 _ _ rfl (l0.length : Int) rfl rfl Try.underlying54 (.slice none 0 0) 24 info22 rfl (by decide) (by omega) [] (ok := fun _ => True) (okp := fun _ => True) ⟨_, rfl, Kd.R_nil _ _ _ _ _⟩ (fun _ hk => hk) trivial (of_decide_eq_true (by first | (with_reducible assumption) | assumption)) (Nat.le_trans (Nat.mul_le_mul_right _ (of_decide_eq_true (by first | (with_reducible assumption) | assumption) : (l0.length : Int).toNat ≤ 11728124029610)) (by omega)) (Below.refl _ _) (Nat.le_refl _) ?_
            intro v115 w10 ho11 hb hg_ hnew_
            clear hg_ hnew_
            (first | rw [← Ny114.out] at ho11 | (simp only [Int.reduceToNat] at ho11; rw [← Ny114.out] at ho11))
            have n0_ := Aside0.mk (Kd.S_lower ho11 (below_size (by repeat (first | (with_reducible first | exact HB.out | apply below_alloc | apply pw_below_drewN | apply below_drew1 | refine below_set ?_ GE120.out) | exact HB.out))))
            have n1_ := Aside0.mk (blk_below (g := gb120) (o := .cells #[.slice none 0 0, .slice none 0 0, .int .i64 0, .int .i64 0] 56 (0, 0)) (by (with_reducible repeat (first | refine blk_drewN ?_ _ | refine blk_drew ?_ | refine blk_alloc ?_ _)); exact BK120.out) hb)
            have n2_ := Aside0.mk (below_step (by repeat (first | (with_reducible first | exact HB.out | apply below_alloc | apply pw_below_drewN | apply below_drew1 | refine below_set ?_ GE120.out) | exact HB.out)) hb)
            clear BK120
            clear HB
            have HO116 := n0_
            have BK120 := n1_
            have HB := n2_
            clear n0_ n1_ n2_
            clear hb ho11
            refine hK.out _ _ trivial (fun hHeld => ?_)
            clear hK K
            refine norm_ (a' := ?_) ?_ ?_
            rotate_left
            ·show Act.put _ (some 24) _ = _
             simp only [Act.put, List.setIfInBounds_toArray, List.set_cons_zero, List.set_cons_succ, i64_w, i32_w]
             rfl
            exact norm_ (by first | (simp only [putAll, Act.put, List.setIfInBounds_toArray, List.set_cons_zero, List.set_cons_succ]; done) | (simp only [putAll, Act.put, List.setIfInBounds_toArray, List.set_cons_zero, List.set_cons_succ]; rfl)) (hJ2_7 (v115, gb120) _ ⟨(by (with_reducible repeat (first | apply Kd.S_alloc | apply Kd.S_drewN | apply Kd.S_drew)); exact HO116.out), (by (with_reducible repeat (first | refine blk_drewN ?_ _ | refine blk_drew ?_ | refine blk_alloc ?_ _)); exact BK120.out), GW120.out, GE120.out, (by repeat (first | (with_reducible first | exact HB.out | apply below_alloc | apply pw_below_drewN | apply below_drew1 | refine below_set ?_ GE120.out) | exact HB.out))⟩)
           ·skip
            refine Kd.R_make_step k41 _ 41 (by rfl) (N := 27) rfl 23 _ _ rfl (l0.length : Int) rfl rfl Try.underlying23 (.agg #[(.int .i64 0), (.int .i64 0), (.int .i64 0)]) 24 info41 rfl (by decide) (by omega) z41 (ok := fun _ => True) (okp := fun _ => True) (k41_mkM _ _ _ z41 ) (fun _ hk => hk) trivial (of_decide_eq_true (by first | (with_reducible assumption) | assumption)) (Nat.le_trans (Nat.mul_le_mul_right _ (of_decide_eq_true (by first | (with_reducible assumption) | assumption) : (l0.length : Int).toNat ≤ 11728124029610)) (by omega)) (Below.refl _ _) (Nat.le_refl _) ?_
            intro v118 w10 ho11 hb hg_ hnew_
            clear hg_ hnew_
            (first | rw [← Ny117.out] at ho11 | (simp only [Int.reduceToNat] at ho11; rw [← Ny117.out] at ho11))
            have n0_ := Aside0.mk (Kd.R_lower ho11 (below_size (by repeat (first | (with_reducible first | exact HB.out | apply below_alloc | apply pw_below_drewN | apply below_drew1 | refine below_set ?_ GE120.out) | exact HB.out))))
            have n1_ := Aside0.mk (blk_below (g := gb120) (o := .cells #[.slice none 0 0, .slice none 0 0, .int .i64 0, .int .i64 0] 56 (0, 0)) (by (with_reducible repeat (first | refine blk_drewN ?_ _ | refine blk_drew ?_ | refine blk_alloc ?_ _)); exact BK120.out) hb)
            have n2_ := Aside0.mk (below_step (by repeat (first | (with_reducible first | exact HB.out | apply below_alloc | apply pw_below_drewN | apply below_drew1 | refine below_set ?_ GE120.out) | exact HB.out)) hb)
            clear BK120
            clear HB
            have HO119 := n0_
            have BK120 := n1_
            have HB := n2_
            clear n0_ n1_ n2_
            clear hb ho11
            refine hK.out _ _ trivial (fun hHeld => ?_)
            clear hK K
            refine norm_ (a' := ?_) ?_ ?_
            rotate_left
            ·show Act.put _ (some 27) _ = _
             simp only [Act.put, List.setIfInBounds_toArray, List.set_cons_zero, List.set_cons_succ, i64_w, i32_w]
             rfl
            exact norm_ (by first | (simp only [putAll, Act.put, List.setIfInBounds_toArray, List.set_cons_zero, List.set_cons_succ]; done) | (simp only [putAll, Act.put, List.setIfInBounds_toArray, List.set_cons_zero, List.set_cons_succ]; rfl)) (hJ5_7 (v118, gb120) _ ⟨(by (with_reducible repeat (first | apply Kd.R_alloc | apply Kd.R_drewN | apply Kd.R_drew)); exact HO119.out), (by (with_reducible repeat (first | refine blk_drewN ?_ _ | refine blk_drew ?_ | refine blk_alloc ?_ _)); exact BK120.out), GW120.out, GE120.out, (by repeat (first | (with_reducible first | exact HB.out | apply below_alloc | apply pw_below_drewN | apply below_drew1 | refine below_set ?_ GE120.out) | exact HB.out))⟩)
         ·skip
          rintro v118 w10 ⟨h0_, h1_⟩
          have n0_ : Aside0 (Kd.R k41 41 w10 w.heap.size (fun _ => True) v118 y117) := ⟨h0_⟩
          have n1_ : Aside0 (Below w.heap.size w w10) := ⟨h1_⟩
          clear HB
          clear h0_ h1_
          have HO119 := n0_
          have HB := n1_
          clear n0_ n1_
          have hHeld := trivial
          refine norm_ (a' := ?_) ?_ ?_
          rotate_left
          ·simp only [putAll, Act.put, List.setIfInBounds_toArray, List.set_cons_zero, List.set_cons_succ]
           rfl
          refine two_ (i := 2) (j := 7) (Ni := some 24) (Nj := some 7) #[true, true, true, true, true, true, false, false, false] #[true, true, false, true, true, true, false, true, false] rfl rfl rfl rfl (two_of HT_.out (by kernel_rfl)) (by decide) (by decide) (fun K hK => ?_) (fun K hK => ?_)
          ·skip
           refine Kd.S_make_step (Kd.slice 3 (Kd.int .i64)) _ 22 (by rfl) (N := 24) rfl 54 _ _ rfl (l0.length : Int) rfl rfl Try.underlying54 (.slice none 0 0) 24 info22 rfl (by decide) (by omega) [] (ok := fun _ => True) (okp := fun _ => True) ⟨_, rfl, Kd.R_nil _ _ _ _ _⟩ (fun _ hk => hk) trivial (of_decide_eq_true (by first | (with_reducible assumption) | assumption)) (Nat.le_trans (Nat.mul_le_mul_right _ (of_decide_eq_true (by first | (with_reducible assumption) | assumption) : (l0.length : Int).toNat ≤ 11728124029610)) (by omega)) (Below.refl _ _) (Nat.le_refl _) ?_
           intro v115 w11 ho12 hb hg_ hnew_
           clear hg_ hnew_
           (first | rw [← Ny114.out] at ho12 | (simp only [Int.reduceToNat] at ho12; rw [← Ny114.out] at ho12))
           have n0_ := Aside0.mk (Kd.R_below (by (with_reducible repeat (first | apply Kd.R_alloc | apply Kd.R_drewN | apply Kd.R_drew)); exact HO119.out) hb)
           have n1_ := Aside0.mk (Kd.S_lower ho12 (below_size (by repeat (first | (with_reducible first | exact HB.out | apply below_alloc | apply pw_below_drewN | apply below_drew1) | exact HB.out))))
           have n2_ := Aside0.mk (below_step (by repeat (first | (with_reducible first | exact HB.out | apply below_alloc | apply pw_below_drewN | apply below_drew1) | exact HB.out)) hb)
           clear HO119
           clear HB
           have HO119 := n0_
           have HO116 := n1_
           have HB := n2_
           clear n0_ n1_ n2_
           clear hb ho12
           obtain ⟨Ao13, co13, eo13⟩ := Kd.R_slice HO119.out
           (first | subst eo13 | (injection eo13 with f1_ f2_ f3_; have f4_ := f1_.symm; have f5_ := f3_.symm; clear f1_ f2_ f3_; subst f4_; subst f5_))
           obtain ⟨Ao14, co14, eo14⟩ := Kd.S_slice HO116.out
           (first | subst eo14 | (injection eo14 with f1_ f2_ f3_; have f4_ := f1_.symm; have f5_ := f3_.symm; clear f1_ f2_ f3_; subst f4_; subst f5_))
           refine hK.out _ _ trivial (fun hHeld => ?_)
           clear hK K
           refine norm_ (a' := ?_) ?_ ?_
           rotate_left
           ·show Act.put _ (some 24) _ = _
            simp only [Act.put, List.setIfInBounds_toArray, List.set_cons_zero, List.set_cons_succ, i64_w, i32_w]
            rfl
           refine pure_ (i := 6) (N := some 28) (v := ?_) (a' := ?_) #[true, true, true, true, true, true, true, false, false] rfl rfl (any_of HT_.out (by kernel_rfl)) (fun _ _ _ h => h) (Or.inl ⟨by rfl, ?_⟩) ?_ ?_
           rotate_left
           ·intro w'
            go_simp
            with_reducible rfl
           rotate_left
           ·simp only [Act.put, List.setIfInBounds_toArray, List.set_cons_zero, List.set_cons_succ, i64_w, i32_w]
            rfl
           exact norm_ (by first | (simp only [putAll, Act.put, List.setIfInBounds_toArray, List.set_cons_zero, List.set_cons_succ]; done) | (simp only [putAll, Act.put, List.setIfInBounds_toArray, List.set_cons_zero, List.set_cons_succ]; rfl)) (hJ2_5 (.slice Ao14 y114.length co14, .slice Ao13 y117.length co13) _ ⟨(by (with_reducible repeat (first | apply Kd.S_alloc | apply Kd.S_drewN | apply Kd.S_drew)); exact HO116.out), (by (with_reducible repeat (first | apply Kd.R_alloc | apply Kd.R_drewN | apply Kd.R_drew)); exact HO119.out), (by repeat (first | (with_reducible first | exact HB.out | apply below_alloc | apply pw_below_drewN | apply below_drew1) | exact HB.out))⟩)
          ·skip
           refine box_step ?hg (N := 7) ?hd (cs := #[.slice none 0 0, .slice none 0 0, .int .i64 0, .int .i64 0]) (t := 56) ?hr ?_; (case hd => rfl); (case hg => rfl); (case hr => first | (go_simp; done) | (go_simp; rfl))
           intro gb120 hg w11 hbox hb
           have n0_ := Aside0.mk (Kd.R_below (by (with_reducible repeat (first | apply Kd.R_alloc | apply Kd.R_drewN | apply Kd.R_drew)); exact HO119.out) hb)
           have n1_ := Aside0.mk (below_step (by repeat (first | (with_reducible first | exact HB.out | apply below_alloc | apply pw_below_drewN | apply below_drew1) | exact HB.out)) hb)
           have n2_ := Aside0.mk (hbox)
           have n3_ := Aside0.mk ((by rw [hg]; exact (below_size (by repeat (first | (with_reducible first | exact HB.out | apply below_alloc | apply pw_below_drewN | apply below_drew1) | exact HB.out))) : w.heap.size ≤ gb120))
           have n4_ := Aside0.mk ((by rw [hg]; exact (below_size (by repeat (first | (with_reducible first | exact HB.out | apply below_alloc | apply pw_below_drewN | apply below_drew1) | exact HB.out))) : w.heap.size ≤ gb120))
           clear HO119
           clear HB
           have HO119 := n0_
           have HB := n1_
           have BK120 := n2_
           have GW120 := n3_
           have GE120 := n4_
           clear n0_ n1_ n2_ n3_ n4_
           clear hb hbox hg
           refine hK.out _ _ trivial (fun hHeld => ?_)
           clear hK K
           refine norm_ (a' := ?_) ?_ ?_
           rotate_left
           ·show Act.put _ (some 7) _ = _
            simp only [Act.put, List.setIfInBounds_toArray, List.set_cons_zero, List.set_cons_succ, i64_w, i32_w]
            rfl
           exact norm_ (by first | (simp only [putAll, Act.put, List.setIfInBounds_toArray, List.set_cons_zero, List.set_cons_succ]; done) | (simp only [putAll, Act.put, List.setIfInBounds_toArray, List.set_cons_zero, List.set_cons_succ]; rfl)) (hJ5_7 (v118, gb120) _ ⟨(by (with_reducible repeat (first | apply Kd.R_alloc | apply Kd.R_drewN | apply Kd.R_drew)); exact HO119.out), (by (with_reducible repeat (first | refine blk_drewN ?_ _ | refine blk_drew ?_ | refine blk_alloc ?_ _)); exact BK120.out), GW120.out, GE120.out, (by repeat (first | (with_reducible first | exact HB.out | apply below_alloc | apply pw_below_drewN | apply below_drew1 | refine below_set ?_ GE120.out) | exact HB.out))⟩)
        ·skip
         rintro v115 w10 ⟨h0_, h1_⟩
         have n0_ : Aside0 (Kd.S (Kd.slice 3 (Kd.int .i64)) 22 w10 w.heap.size (fun _ => True) v115 y114) := ⟨h0_⟩
         have n1_ : Aside0 (Below w.heap.size w w10) := ⟨h1_⟩
         clear HB
         clear h0_ h1_
         have HO116 := n0_
         have HB := n1_
         clear n0_ n1_
         have hHeld := trivial
         refine norm_ (a' := ?_) ?_ ?_
         rotate_left
         ·simp only [putAll, Act.put, List.setIfInBounds_toArray, List.set_cons_zero, List.set_cons_succ]
          rfl
         refine two_ (i := 5) (j := 7) (Ni := some 27) (Nj := some 7) #[true, true, true, true, true, true, false, false, false] #[true, true, true, true, true, false, false, true, false] rfl rfl rfl rfl (two_of HT_.out (by kernel_rfl)) (by decide) (by decide) (fun K hK => ?_) (fun K hK => ?_)
         ·skip
          refine Kd.R_make_step k41 _ 41 (by rfl) (N := 27) rfl 23 _ _ rfl (l0.length : Int) rfl rfl Try.underlying23 (.agg #[(.int .i64 0), (.int .i64 0), (.int .i64 0)]) 24 info41 rfl (by decide) (by omega) z41 (ok := fun _ => True) (okp := fun _ => True) (k41_mkM _ _ _ z41 ) (fun _ hk => hk) trivial (of_decide_eq_true (by first | (with_reducible assumption) | assumption)) (Nat.le_trans (Nat.mul_le_mul_right _ (of_decide_eq_true (by first | (with_reducible assumption) | assumption) : (l0.length : Int).toNat ≤ 11728124029610)) (by omega)) (Below.refl _ _) (Nat.le_refl _) ?_
          intro v118 w11 ho12 hb hg_ hnew_
          clear hg_ hnew_
          (first | rw [← Ny117.out] at ho12 | (simp only [Int.reduceToNat] at ho12; rw [← Ny117.out] at ho12))
          have n0_ := Aside0.mk (Kd.S_below (by (with_reducible repeat (first | apply Kd.S_alloc | apply Kd.S_drewN | apply Kd.S_drew)); exact HO116.out) hb)
          have n1_ := Aside0.mk (Kd.R_lower ho12 (below_size (by repeat (first | (with_reducible first | exact HB.out | apply below_alloc | apply pw_below_drewN | apply below_drew1) | exact HB.out))))
          have n2_ := Aside0.mk (below_step (by repeat (first | (with_reducible first | exact HB.out | apply below_alloc | apply pw_below_drewN | apply below_drew1) | exact HB.out)) hb)
          clear HO116
          clear HB
          have HO116 := n0_
          have HO119 := n1_
          have HB := n2_
          clear n0_ n1_ n2_
          clear hb ho12
          obtain ⟨Ao13, co13, eo13⟩ := Kd.R_slice HO119.out
          (first | subst eo13 | (injection eo13 with f1_ f2_ f3_; have f4_ := f1_.symm; have f5_ := f3_.symm; clear f1_ f2_ f3_; subst f4_; subst f5_))
          obtain ⟨Ao14, co14, eo14⟩ := Kd.S_slice HO116.out
          (first | subst eo14 | (injection eo14 with f1_ f2_ f3_; have f4_ := f1_.symm; have f5_ := f3_.symm; clear f1_ f2_ f3_; subst f4_; subst f5_))
          refine hK.out _ _ trivial (fun hHeld => ?_)
          clear hK K
          refine norm_ (a' := ?_) ?_ ?_
          rotate_left
          ·show Act.put _ (some 27) _ = _
           simp only [Act.put, List.setIfInBounds_toArray, List.set_cons_zero, List.set_cons_succ, i64_w, i32_w]
           rfl
          refine pure_ (i := 6) (N := some 28) (v := ?_) (a' := ?_) #[true, true, true, true, true, true, true, false, false] rfl rfl (any_of HT_.out (by kernel_rfl)) (fun _ _ _ h => h) (Or.inl ⟨by rfl, ?_⟩) ?_ ?_
          rotate_left
          ·intro w'
           go_simp
           with_reducible rfl
          rotate_left
          ·simp only [Act.put, List.setIfInBounds_toArray, List.set_cons_zero, List.set_cons_succ, i64_w, i32_w]
           rfl
          exact norm_ (by first | (simp only [putAll, Act.put, List.setIfInBounds_toArray, List.set_cons_zero, List.set_cons_succ]; done) | (simp only [putAll, Act.put, List.setIfInBounds_toArray, List.set_cons_zero, List.set_cons_succ]; rfl)) (hJ2_5 (.slice Ao14 y114.length co14, .slice Ao13 y117.length co13) _ ⟨(by (with_reducible repeat (first | apply Kd.S_alloc | apply Kd.S_drewN | apply Kd.S_drew)); exact HO116.out), (by (with_reducible repeat (first | apply Kd.R_alloc | apply Kd.R_drewN | apply Kd.R_drew)); exact HO119.out), (by repeat (first | (with_reducible first | exact HB.out | apply below_alloc | apply pw_below_drewN | apply below_drew1) | exact HB.out))⟩)
         ·skip
          refine box_step ?hg (N := 7) ?hd (cs := #[.slice none 0 0, .slice none 0 0, .int .i64 0, .int .i64 0]) (t := 56) ?hr ?_; (case hd => rfl); (case hg => rfl); (case hr => first | (go_simp; done) | (go_simp; rfl))
          intro gb120 hg w11 hbox hb
          have n0_ := Aside0.mk (Kd.S_below (by (with_reducible repeat (first | apply Kd.S_alloc | apply Kd.S_drewN | apply Kd.S_drew)); exact HO116.out) hb)
          have n1_ := Aside0.mk (below_step (by repeat (first | (with_reducible first | exact HB.out | apply below_alloc | apply pw_below_drewN | apply below_drew1) | exact HB.out)) hb)
          have n2_ := Aside0.mk (hbox)
          have n3_ := Aside0.mk ((by rw [hg]; exact (below_size (by repeat (first | (with_reducible first | exact HB.out | apply below_alloc | apply pw_below_drewN | apply below_drew1) | exact HB.out))) : w.heap.size ≤ gb120))
          have n4_ := Aside0.mk ((by rw [hg]; exact (below_size (by repeat (first | (with_reducible first | exact HB.out | apply below_alloc | apply pw_below_drewN | apply below_drew1) | exact HB.out))) : w.heap.size ≤ gb120))
          clear HO116
          clear HB
          have HO116 := n0_
          have HB := n1_
          have BK120 := n2_
          have GW120 := n3_
          have GE120 := n4_
          clear n0_ n1_ n2_ n3_ n4_
          clear hb hbox hg
          refine hK.out _ _ trivial (fun hHeld => ?_)
          clear hK K
          refine norm_ (a' := ?_) ?_ ?_
          rotate_left
          ·show Act.put _ (some 7) _ = _
           simp only [Act.put, List.setIfInBounds_toArray, List.set_cons_zero, List.set_cons_succ, i64_w, i32_w]
           rfl
          exact norm_ (by first | (simp only [putAll, Act.put, List.setIfInBounds_toArray, List.set_cons_zero, List.set_cons_succ]; done) | (simp only [putAll, Act.put, List.setIfInBounds_toArray, List.set_cons_zero, List.set_cons_succ]; rfl)) (hJ2_7 (v115, gb120) _ ⟨(by (with_reducible repeat (first | apply Kd.S_alloc | apply Kd.S_drewN | apply Kd.S_drew)); exact HO116.out), (by (with_reducible repeat (first | refine blk_drewN ?_ _ | refine blk_drew ?_ | refine blk_alloc ?_ _)); exact BK120.out), GW120.out, GE120.out, (by repeat (first | (with_reducible first | exact HB.out | apply below_alloc | apply pw_below_drewN | apply below_drew1 | refine below_set ?_ GE120.out) | exact HB.out))⟩)
       ·skip
        rintro ⟨v118, gb120⟩ w11 ⟨h0_, h1_, h2_, h3_, h4_⟩
        have n0_ : Aside0 (Kd.R k41 41 w11 w.heap.size (fun _ => True) v118 y117) := ⟨h0_⟩
        have n1_ : Aside0 (w11.heap[gb120]? = some (.cells #[.slice none 0 0, .slice none 0 0, .int .i64 0, .int .i64 0] 56 (0, 0))) := ⟨h1_⟩
        have n2_ : Aside0 (w.heap.size ≤ gb120) := ⟨h2_⟩
        have n3_ : Aside0 (w.heap.size ≤ gb120) := ⟨h3_⟩
        have n4_ : Aside0 (Below w.heap.size w w11) := ⟨h4_⟩
        clear HB
        clear h0_ h1_ h2_ h3_ h4_
        have HO119 := n0_
        have BK120 := n1_
        have GW120 := n2_
        have GE120 := n3_
        have HB := n4_
        clear n0_ n1_ n2_ n3_ n4_
        have hHeld := trivial
        refine norm_ (a' := ?_) ?_ ?_
        rotate_left
        ·simp only [putAll, Act.put, List.setIfInBounds_toArray, List.set_cons_zero, List.set_cons_succ]
         rfl
        refine one_ (i := 2) (N := some 24) #[true, true, true, true, true, true, false, true, false] rfl rfl (one_of HT_.out (by kernel_rfl)) (by decide) (fun K hK => ?_)
        refine Kd.S_make_step (Kd.slice 3 (Kd.int .i64)) _ 22 (by rfl) (N := 24) rfl 54 _ _ rfl (l0.length : Int) rfl rfl Try.underlying54 (.slice none 0 0) 24 info22 rfl (by decide) (by omega) [] (ok := fun _ => True) (okp := fun _ => True) ⟨_, rfl, Kd.R_nil _ _ _ _ _⟩ (fun _ hk => hk) trivial (of_decide_eq_true (by first | (with_reducible assumption) | assumption)) (Nat.le_trans (Nat.mul_le_mul_right _ (of_decide_eq_true (by first | (with_reducible assumption) | assumption) : (l0.length : Int).toNat ≤ 11728124029610)) (by omega)) (Below.refl _ _) (Nat.le_refl _) ?_
        intro v115 w12 ho13 hb hg_ hnew_
        clear hg_ hnew_
        (first | rw [← Ny114.out] at ho13 | (simp only [Int.reduceToNat] at ho13; rw [← Ny114.out] at ho13))
        have n0_ := Aside0.mk (Kd.R_below (by (with_reducible repeat (first | apply Kd.R_alloc | apply Kd.R_drewN | apply Kd.R_drew)); exact HO119.out) hb)
        have n1_ := Aside0.mk (Kd.S_lower ho13 (below_size (by repeat (first | (with_reducible first | exact HB.out | apply below_alloc | apply pw_below_drewN | apply below_drew1 | refine below_set ?_ GE120.out) | exact HB.out))))
        have n2_ := Aside0.mk (blk_below (g := gb120) (o := .cells #[.slice none 0 0, .slice none 0 0, .int .i64 0, .int .i64 0] 56 (0, 0)) (by (with_reducible repeat (first | refine blk_drewN ?_ _ | refine blk_drew ?_ | refine blk_alloc ?_ _)); exact BK120.out) hb)
        have n3_ := Aside0.mk (below_step (by repeat (first | (with_reducible first | exact HB.out | apply below_alloc | apply pw_below_drewN | apply below_drew1 | refine below_set ?_ GE120.out) | exact HB.out)) hb)
        clear HO119
        clear BK120
        clear HB
        have HO119 := n0_
        have HO116 := n1_
        have BK120 := n2_
        have HB := n3_
        clear n0_ n1_ n2_ n3_
        clear hb ho13
        obtain ⟨Ao14, co14, eo14⟩ := Kd.R_slice HO119.out
        (first | subst eo14 | (injection eo14 with f1_ f2_ f3_; have f4_ := f1_.symm; have f5_ := f3_.symm; clear f1_ f2_ f3_; subst f4_; subst f5_))
        obtain ⟨Ao15, co15, eo15⟩ := Kd.S_slice HO116.out
        (first | subst eo15 | (injection eo15 with f1_ f2_ f3_; have f4_ := f1_.symm; have f5_ := f3_.symm; clear f1_ f2_ f3_; subst f4_; subst f5_))
        refine hK.out _ _ trivial (fun hHeld => ?_)
        clear hK K
        refine norm_ (a' := ?_) ?_ ?_
        rotate_left
        ·show Act.put _ (some 24) _ = _
         simp only [Act.put, List.setIfInBounds_toArray, List.set_cons_zero, List.set_cons_succ, i64_w, i32_w]
         rfl
        refine pure_ (i := 6) (N := some 28) (v := ?_) (a' := ?_) #[true, true, true, true, true, true, true, true, false] rfl rfl (any_of HT_.out (by kernel_rfl)) (fun _ _ _ h => h) (Or.inl ⟨by rfl, ?_⟩) ?_ ?_
        rotate_left
        ·intro w'
         go_simp
         with_reducible rfl
        rotate_left
        ·simp only [Act.put, List.setIfInBounds_toArray, List.set_cons_zero, List.set_cons_succ, i64_w, i32_w]
         rfl
        exact norm_ (by first | (simp only [putAll, Act.put, List.setIfInBounds_toArray, List.set_cons_zero, List.set_cons_succ]; done) | (simp only [putAll, Act.put, List.setIfInBounds_toArray, List.set_cons_zero, List.set_cons_succ]; rfl)) (hJ2_5_7 (.slice Ao15 y114.length co15, .slice Ao14 y117.length co14, gb120) _ ⟨(by (with_reducible repeat (first | apply Kd.S_alloc | apply Kd.S_drewN | apply Kd.S_drew)); exact HO116.out), (by (with_reducible repeat (first | apply Kd.R_alloc | apply Kd.R_drewN | apply Kd.R_drew)); exact HO119.out), (by (with_reducible repeat (first | refine blk_drewN ?_ _ | refine blk_drew ?_ | refine blk_alloc ?_ _)); exact BK120.out), GW120.out, GE120.out, (by repeat (first | (with_reducible first | exact HB.out | apply below_alloc | apply pw_below_drewN | apply below_drew1 | refine below_set ?_ GE120.out) | exact HB.out))⟩)
      ·skip
       rintro ⟨v115, gb120⟩ w11 ⟨h0_, h1_, h2_, h3_, h4_⟩
       have n0_ : Aside0 (Kd.S (Kd.slice 3 (Kd.int .i64)) 22 w11 w.heap.size (fun _ => True) v115 y114) := ⟨h0_⟩
       have n1_ : Aside0 (w11.heap[gb120]? = some (.cells #[.slice none 0 0, .slice none 0 0, .int .i64 0, .int .i64 0] 56 (0, 0))) := ⟨h1_⟩
       have n2_ : Aside0 (w.heap.size ≤ gb120) := ⟨h2_⟩
       have n3_ : Aside0 (w.heap.size ≤ gb120) := ⟨h3_⟩
       have n4_ : Aside0 (Below w.heap.size w w11) := ⟨h4_⟩
       clear HB
       clear h0_ h1_ h2_ h3_ h4_
       have HO116 := n0_
       have BK120 := n1_
       have GW120 := n2_
       have GE120 := n3_
       have HB := n4_
       clear n0_ n1_ n2_ n3_ n4_
       have hHeld := trivial
       refine norm_ (a' := ?_) ?_ ?_
       rotate_left
       ·simp only [putAll, Act.put, List.setIfInBounds_toArray, List.set_cons_zero, List.set_cons_succ]
        rfl
       refine one_ (i := 5) (N := some 27) #[true, true, true, true, true, true, false, true, false] rfl rfl (one_of HT_.out (by kernel_rfl)) (by decide) (fun K hK => ?_)
       refine Kd.R_make_step k41 _ 41 (by rfl) (N := 27) rfl 23 _ _ rfl (l0.length : Int) rfl rfl Try.underlying23 (.agg #[(.int .i64 0), (.int .i64 0), (.int .i64 0)]) 24 info41 rfl (by decide) (by omega) z41 (ok := fun _ => True) (okp := fun _ => True) (k41_mkM _ _ _ z41 ) (fun _ hk => hk) trivial (of_decide_eq_true (by first | (with_reducible assumption) | assumption)) (Nat.le_trans (Nat.mul_le_mul_right _ (of_decide_eq_true (by first | (with_reducible assumption) | assumption) : (l0.length : Int).toNat ≤ 11728124029610)) (by omega)) (Below.refl _ _) (Nat.le_refl _) ?_
       intro v118 w12 ho13 hb hg_ hnew_
       clear hg_ hnew_
       (first | rw [← Ny117.out] at ho13 | (simp only [Int.reduceToNat] at ho13; rw [← Ny117.out] at ho13))
       have n0_ := Aside0.mk (Kd.S_below (by (with_reducible repeat (first | apply Kd.S_alloc | apply Kd.S_drewN | apply Kd.S_drew)); exact HO116.out) hb)
       have n1_ := Aside0.mk (Kd.R_lower ho13 (below_size (by repeat (first | (with_reducible first | exact HB.out | apply below_alloc | apply pw_below_drewN | apply below_drew1 | refine below_set ?_ GE120.out) | exact HB.out))))
       have n2_ := Aside0.mk (blk_below (g := gb120) (o := .cells #[.slice none 0 0, .slice none 0 0, .int .i64 0, .int .i64 0] 56 (0, 0)) (by (with_reducible repeat (first | refine blk_drewN ?_ _ | refine blk_drew ?_ | refine blk_alloc ?_ _)); exact BK120.out) hb)
       have n3_ := Aside0.mk (below_step (by repeat (first | (with_reducible first | exact HB.out | apply below_alloc | apply pw_below_drewN | apply below_drew1 | refine below_set ?_ GE120.out) | exact HB.out)) hb)
       clear HO116
       clear BK120
       clear HB
       have HO116 := n0_
       have HO119 := n1_
       have BK120 := n2_
       have HB := n3_
       clear n0_ n1_ n2_ n3_
       clear hb ho13
       obtain ⟨Ao14, co14, eo14⟩ := Kd.R_slice HO119.out
       (first | subst eo14 | (injection eo14 with f1_ f2_ f3_; have f4_ := f1_.symm; have f5_ := f3_.symm; clear f1_ f2_ f3_; subst f4_; subst f5_))
       obtain ⟨Ao15, co15, eo15⟩ := Kd.S_slice HO116.out
       (first | subst eo15 | (injection eo15 with f1_ f2_ f3_; have f4_ := f1_.symm; have f5_ := f3_.symm; clear f1_ f2_ f3_; subst f4_; subst f5_))
       refine hK.out _ _ trivial (fun hHeld => ?_)
       clear hK K
       refine norm_ (a' := ?_) ?_ ?_
       rotate_left
       ·show Act.put _ (some 27) _ = _
        simp only [Act.put, List.setIfInBounds_toArray, List.set_cons_zero, List.set_cons_succ, i64_w, i32_w]
        rfl
       refine pure_ (i := 6) (N := some 28) (v := ?_) (a' := ?_) #[true, true, true, true, true, true, true, true, false] rfl rfl (any_of HT_.out (by kernel_rfl)) (fun _ _ _ h => h) (Or.inl ⟨by rfl, ?_⟩) ?_ ?_
       rotate_left
       ·intro w'
        go_simp
        with_reducible rfl
       rotate_left
       ·simp only [Act.put, List.setIfInBounds_toArray, List.set_cons_zero, List.set_cons_succ, i64_w, i32_w]
        rfl
       exact norm_ (by first | (simp only [putAll, Act.put, List.setIfInBounds_toArray, List.set_cons_zero, List.set_cons_succ]; done) | (simp only [putAll, Act.put, List.setIfInBounds_toArray, List.set_cons_zero, List.set_cons_succ]; rfl)) (hJ2_5_7 (.slice Ao15 y114.length co15, .slice Ao14 y117.length co14, gb120) _ ⟨(by (with_reducible repeat (first | apply Kd.S_alloc | apply Kd.S_drewN | apply Kd.S_drew)); exact HO116.out), (by (with_reducible repeat (first | apply Kd.R_alloc | apply Kd.R_drewN | apply Kd.R_drew)); exact HO119.out), (by (with_reducible repeat (first | refine blk_drewN ?_ _ | refine blk_drew ?_ | refine blk_alloc ?_ _)); exact BK120.out), GW120.out, GE120.out, (by repeat (first | (with_reducible first | exact HB.out | apply below_alloc | apply pw_below_drewN | apply below_drew1 | refine below_set ?_ GE120.out) | exact HB.out))⟩)
     ·skip
      rintro ⟨v115, v118⟩ w14 ⟨h0_, h1_, h2_⟩
      have n0_ : Aside0 (Kd.S (Kd.slice 3 (Kd.int .i64)) 22 w14 w.heap.size (fun _ => True) v115 y114) := ⟨h0_⟩
      have n1_ : Aside0 (Kd.R k41 41 w14 w.heap.size (fun _ => True) v118 y117) := ⟨h1_⟩
      have n2_ : Aside0 (Below w.heap.size w w14) := ⟨h2_⟩
      clear HB
      clear h0_ h1_ h2_
      have HO116 := n0_
      have HO119 := n1_
      have HB := n2_
      clear n0_ n1_ n2_
      have hHeld := trivial
      obtain ⟨Ao15, co15, eo15⟩ := Kd.R_slice HO119.out
      (first | subst eo15 | (injection eo15 with f1_ f2_ f3_; have f4_ := f1_.symm; have f5_ := f3_.symm; clear f1_ f2_ f3_; subst f4_; subst f5_))
      obtain ⟨Ao16, co16, eo16⟩ := Kd.S_slice HO116.out
      (first | subst eo16 | (injection eo16 with f1_ f2_ f3_; have f4_ := f1_.symm; have f5_ := f3_.symm; clear f1_ f2_ f3_; subst f4_; subst f5_))
      refine norm_ (a' := ?_) ?_ ?_
      rotate_left
      ·simp only [putAll, Act.put, List.setIfInBounds_toArray, List.set_cons_zero, List.set_cons_succ]
       rfl
      refine one_ (i := 7) (N := some 7) #[true, true, true, true, true, true, true, true, false] rfl rfl (one_of HT_.out (by kernel_rfl)) (by decide) (fun K hK => ?_)
      refine box_step ?hg (N := 7) ?hd (cs := #[.slice none 0 0, .slice none 0 0, .int .i64 0, .int .i64 0]) (t := 56) ?hr ?_; (case hd => rfl); (case hg => rfl); (case hr => first | (go_simp; done) | (go_simp; rfl))
      intro gb120 hg w17 hbox hb
      have n0_ := Aside0.mk (Kd.S_below (by (with_reducible repeat (first | apply Kd.S_alloc | apply Kd.S_drewN | apply Kd.S_drew)); exact HO116.out) hb)
      have n1_ := Aside0.mk (Kd.R_below (by (with_reducible repeat (first | apply Kd.R_alloc | apply Kd.R_drewN | apply Kd.R_drew)); exact HO119.out) hb)
      have n2_ := Aside0.mk (below_step (by repeat (first | (with_reducible first | exact HB.out | apply below_alloc | apply pw_below_drewN | apply below_drew1) | exact HB.out)) hb)
      have n3_ := Aside0.mk (hbox)
      have n4_ := Aside0.mk ((by rw [hg]; exact (below_size (by repeat (first | (with_reducible first | exact HB.out | apply below_alloc | apply pw_below_drewN | apply below_drew1) | exact HB.out))) : w.heap.size ≤ gb120))
      have n5_ := Aside0.mk ((by rw [hg]; exact (below_size (by repeat (first | (with_reducible first | exact HB.out | apply below_alloc | apply pw_below_drewN | apply below_drew1) | exact HB.out))) : w.heap.size ≤ gb120))
      clear HO116
      clear HO119
      clear HB
      have HO116 := n0_
      have HO119 := n1_
      have HB := n2_
      have BK120 := n3_
      have GW120 := n4_
      have GE120 := n5_
      clear n0_ n1_ n2_ n3_ n4_ n5_
      clear hb hbox hg
      refine hK.out _ _ trivial (fun hHeld => ?_)
      clear hK K
      refine norm_ (a' := ?_) ?_ ?_
      rotate_left
      ·show Act.put _ (some 7) _ = _
       simp only [Act.put, List.setIfInBounds_toArray, List.set_cons_zero, List.set_cons_succ, i64_w, i32_w]
       rfl
      exact norm_ (by first | (simp only [putAll, Act.put, List.setIfInBounds_toArray, List.set_cons_zero, List.set_cons_succ]; done) | (simp only [putAll, Act.put, List.setIfInBounds_toArray, List.set_cons_zero, List.set_cons_succ]; rfl)) (hJ2_5_7 (.slice Ao16 y114.length co16, .slice Ao15 y117.length co15, gb120) _ ⟨(by (with_reducible repeat (first | apply Kd.S_alloc | apply Kd.S_drewN | apply Kd.S_drew)); exact HO116.out), (by (with_reducible repeat (first | apply Kd.R_alloc | apply Kd.R_drewN | apply Kd.R_drew)); exact HO119.out), (by (with_reducible repeat (first | refine blk_drewN ?_ _ | refine blk_drew ?_ | refine blk_alloc ?_ _)); exact BK120.out), GW120.out, GE120.out, (by repeat (first | (with_reducible first | exact HB.out | apply below_alloc | apply pw_below_drewN | apply below_drew1 | refine below_set ?_ GE120.out) | exact HB.out))⟩)
    rintro ⟨v115, v118, gb120⟩ w15 ⟨h0_, h1_, h2_, h3_, h4_, h5_⟩
    have n0_ : Aside0 (Kd.S (Kd.slice 3 (Kd.int .i64)) 22 w15 w.heap.size (fun _ => True) v115 y114) := ⟨h0_⟩
    have n1_ : Aside0 (Kd.R k41 41 w15 w.heap.size (fun _ => True) v118 y117) := ⟨h1_⟩
    have n2_ : Aside0 (w15.heap[gb120]? = some (.cells #[.slice none 0 0, .slice none 0 0, .int .i64 0, .int .i64 0] 56 (0, 0))) := ⟨h2_⟩
    have n3_ : Aside0 (w.heap.size ≤ gb120) := ⟨h3_⟩
    have n4_ : Aside0 (w.heap.size ≤ gb120) := ⟨h4_⟩
    have n5_ : Aside0 (Below w.heap.size w w15) := ⟨h5_⟩
    clear HB
    clear h0_ h1_ h2_ h3_ h4_ h5_
    have HO116 := n0_
    have HO119 := n1_
    have BK120 := n2_
    have GW120 := n3_
    have GE120 := n4_
    have HB := n5_
    clear n0_ n1_ n2_ n3_ n4_ n5_
    have hHeld := trivial
    obtain ⟨Ao16, co16, eo16⟩ := Kd.R_slice HO119.out
    (first | subst eo16 | (injection eo16 with f1_ f2_ f3_; have f4_ := f1_.symm; have f5_ := f3_.symm; clear f1_ f2_ f3_; subst f4_; subst f5_))
    obtain ⟨Ao17, co17, eo17⟩ := Kd.S_slice HO116.out
    (first | subst eo17 | (injection eo17 with f1_ f2_ f3_; have f4_ := f1_.symm; have f5_ := f3_.symm; clear f1_ f2_ f3_; subst f4_; subst f5_))
    refine norm_ (a' := ?_) ?_ ?_
    rotate_left
    ·simp only [putAll, Act.put, List.setIfInBounds_toArray, List.set_cons_zero, List.set_cons_succ]
     rfl
    refine one_ (i := 8) (N := none) #[true, true, true, true, true, true, true, true, true] rfl rfl (one_of HT_.out (by kernel_rfl)) (by decide) (fun K hK => ?_)
    have hs18 : w15.cell? ⟨gb120, 0, none⟩ = some (.slice none 0 0) := (blk_cell BK120.out 0).trans rfl
    have hfs18 := blk_frozen BK120.out 0
    have hs19 : w15.cell? ⟨gb120, 1, none⟩ = some (.slice none 0 0) := (blk_cell BK120.out 1).trans rfl
    have hfs19 := blk_frozen BK120.out 1
    have hs20 : w15.cell? ⟨gb120, 2, none⟩ = some (.int .i64 0) := (blk_cell BK120.out 2).trans rfl
    have hfs20 := blk_frozen BK120.out 2
    have hs21 : w15.cell? ⟨gb120, 3, none⟩ = some (.int .i64 0) := (blk_cell BK120.out 3).trans rfl
    have hfs21 := blk_frozen BK120.out 3
    refine skip_ (w1 := ?_) (by rfl) rfl ?_ ?_
    rotate_left
    ·go_simp
     rfl
    refine hK.out _ _ trivial (fun hHeld => ?_)
    clear hK K
    refine done_ (done_of HT_.out (by kernel_rfl)) ?_
    try go_wp2
    go_loopg [8, 31] k (fun kq v8 v31 w' => ∃ (x8_1 : List Int) (x31_1 : Int) (x121000_1 : List (List Int)) (u121000 : Value), v31 = .int .i64 x31_1 ∧ Aside0 (treelabel_Assign.l0 kq x8_1 l0 (l0.length : Int) x31_1 x121000_1 y117 0 0 = some (r1, r2, r3)) ∧ Aside0 (kq ≤ k) ∧ Aside0 (Kd.R (Kd.int .i64) 3 w' w.heap.size (fun _ => True) v8 x8_1) ∧ Aside0 (Kd.S (Kd.slice 3 (Kd.int .i64)) 22 w' w.heap.size (fun k_ => some k_ ≠ (v8 : Value).ownBlock) u121000 x121000_1) ∧ Aside0 (Kd.R k41 41 w' w.heap.size (fun _ => True) (.slice Ao16 y117.length co16) y117) ∧ Aside0 (w'.heap[gb120]? = some (.cells #[u121000, (.slice Ao16 y117.length co16), .int .i64 0, .int .i64 0] 56 (0, 0))) ∧ Aside0 (Below w.heap.size w w'))
    case atStart => exact ⟨(([] : List Int)), (0), (y114), (.slice Ao17 y114.length co17), (by first | rfl | (simp; done) | (simp [*]; done)), H', ⟨Nat.le_refl _⟩, ⟨by first | exact Kd.R_nil _ _ _ _ _ | exact Kd.N_nil _ _ _ _ _ | exact Kd.V_nil _ _ _ _ _ | exact Kd.Q_nil _ _ _ _ _ | exact Kd.S_nil _ _ _ _ _⟩, ⟨by (with_reducible repeat (first | apply Kd.S_alloc | apply Kd.S_drewN | apply Kd.S_drew)); exact Kd.S_mono (Kd.S_far (p := ⟨gb120, 3, none⟩) (Kd.S_far (p := ⟨gb120, 2, none⟩) (Kd.S_far (p := ⟨gb120, 1, none⟩) (Kd.S_far (p := ⟨gb120, 0, none⟩) (Kd.S_types HO116.out BK120.out (by decide)) (fun _ hk => hk.2) (.slice Ao17 y114.length co17)) (fun _ hk => hk.2) (.slice Ao16 y117.length co16)) (fun _ hk => hk.2) (.int .i64 0)) (fun _ hk => hk.2) (.int .i64 0)) (fun _ hk => (by simp [Value.ownBlock]))⟩, ⟨by (with_reducible repeat (first | apply Kd.R_alloc | apply Kd.R_drewN | apply Kd.R_drew)); exact Kd.R_mono (Kd.R_far (p := ⟨gb120, 3, none⟩) (Kd.R_far (p := ⟨gb120, 2, none⟩) (Kd.R_far (p := ⟨gb120, 1, none⟩) (Kd.R_far (p := ⟨gb120, 0, none⟩) (Kd.R_types HO119.out BK120.out (by decide)) (fun _ hk => hk.2) (.slice Ao17 y114.length co17)) (fun _ hk => hk.2) (.slice Ao16 y117.length co16)) (fun _ hk => hk.2) (.int .i64 0)) (fun _ hk => hk.2) (.int .i64 0)) (fun _ hk => trivial)⟩, ⟨by (with_reducible repeat (first | refine blk_drewN ?_ _ | refine blk_drew ?_ | refine blk_alloc ?_ _)); refine blk_put (cs := #[.slice Ao17 y114.length co17, .slice Ao16 y117.length co16, .int .i64 0, .int .i64 0]) ?_ 3 _ rfl; (with_reducible repeat (first | refine blk_drewN ?_ _ | refine blk_drew ?_ | refine blk_alloc ?_ _)); refine blk_put (cs := #[.slice Ao17 y114.length co17, .slice Ao16 y117.length co16, .int .i64 0, .int .i64 0]) ?_ 2 _ rfl; (with_reducible repeat (first | refine blk_drewN ?_ _ | refine blk_drew ?_ | refine blk_alloc ?_ _)); refine blk_put (cs := #[.slice Ao17 y114.length co17, .slice none 0 0, .int .i64 0, .int .i64 0]) ?_ 1 _ rfl; (with_reducible repeat (first | refine blk_drewN ?_ _ | refine blk_drew ?_ | refine blk_alloc ?_ _)); refine blk_put (cs := #[.slice none 0 0, .slice none 0 0, .int .i64 0, .int .i64 0]) ?_ 0 _ rfl; (with_reducible repeat (first | refine blk_drewN ?_ _ | refine blk_drew ?_ | refine blk_alloc ?_ _)); exact BK120.out⟩, ⟨by repeat (first | (with_reducible first | exact HB.out | apply below_alloc | apply pw_below_drewN | apply below_drew1 | refine below_set ?_ GE120.out) | exact HB.out)⟩⟩
    case round =>
     clear H'
     try clear c1
     try clear p2
     try clear c3
     try clear c3b0
     try clear c3b1
     try clear c4
     try clear c4b0
     try clear c4b1
     try clear c5
     try clear c5b0
     try clear c5b1
     try clear c11
     obtain ⟨x8_1, x31_1, x121000_1, u121000, rfl, HA, HK1, HO_8, HO_121000, HO_121001, BK120, HB⟩ := hrel
     cases gk with
     | zero => exact absurd HA.out (by simp [treelabel_Assign.l0])
     | succ k1 =>
      have H := HA.out
      clear HA
      simp only [treelabel_Assign.l0] at H
      by_cases c22 : x31_1 < (l0.length : Int)
      ·rw [if_pos c22] at H
       have c22b0 : decide (x31_1 < (l0.length : Int)) = true := decide_eq_true c22
       clear c22
       by_cases c23 : 0 ≤ x31_1
       ·rw [if_pos c23] at H
        have c23b0 : decide (0 ≤ x31_1) = true := decide_eq_true c23
        clear c23
        by_cases c24 : x31_1 < (l0.length : Int)
        ·rw [if_pos c24] at H
         have c24b0 : decide (x31_1 < (l0.length : Int)) = true := decide_eq_true c24
         clear c24
         by_cases c25 : (rd l0 x31_1) < 0
         ·rw [if_pos c25] at H
          have c25b0 : decide ((rd l0 x31_1) < 0) = true := decide_eq_true c25
          clear c25
          by_cases c26 : x8_1.length < 17592186044416
          ·rw [if_pos c26] at H
           have LMc26 := Aside0.mk c26
           clear c26
           obtain ⟨y122, hy122⟩ : ∃ y_ : List Int, y_ = (x8_1 ++ [x31_1]) := ⟨_, rfl⟩
           replace H : (treelabel_Assign.l0 k1 y122 l0 (l0.length : Int) (wrap64 (x31_1 + 1)) x121000_1 y117 0 0) = some (r1, r2, r3) := by first | (rw [hy122]; with_reducible exact H) | (have H2_ := (Option.bind_some _ _).symm.trans H; rw [hy122]; with_reducible exact H2_) | (have H2_ := (Option.bind_some _ _).symm.trans H; with_reducible exact H2_) | with_reducible exact H | (rw [hy122]; exact H) | exact H
           have Ny122 := Aside0.mk hy122
           clear hy122
           have H' := Aside0.mk H
           clear H
           have p121 : 0 ≤ (x31_1 : Int) := of_decide_eq_true (by first | (with_reducible assumption) | assumption)
           have q121 : x31_1 < (l0.length : Int) := of_decide_eq_true (by first | (with_reducible assumption) | assumption)
           obtain ⟨ad121, e121, hx121_0⟩ := Kd.at_int HR0.out x31_1 p121 q121
           cases e121
           replace hx121_0 := (HB.out.cell (World.block_lt_of_cell? w _ hx121_0)).trans hx121_0
           replace p121 := eq_true p121
           replace q121 := eq_true q121
           go_wp2_with (first | ((with_reducible refine gate_builtin (b := .append) (xs := #[.tmp 38, .tmp 40]) rfl ?_); at_builtin; refine Kd.R_append (Kd.int .i64) (w0 := w) w.heap.size rfl (.tmp 38) (.tmp 40) 22 3 (.int .i64 0) 8 rfl Try.underlying22 info3 rfl (by decide) (by omega) u8 x8_1 x31_1 [.int .i64 x31_1] (fun _ => True) (fun _ => False) rfl rfl ?aP (fun _ hk => hk.elim) ?aF ?aO ?aB ?aS ?aL ?_; (case aP => exact rfl); (case aB => exact (by repeat (first | (with_reducible first | exact HB.out | apply below_alloc | apply pw_below_drewN | apply below_drew1 | refine below_set ?_ GE120.out) | exact HB.out))); (case aF => exact (fun _ _ => trivial)); (case aO => exact (by (with_reducible repeat (first | apply Kd.R_alloc | apply Kd.R_drewN | apply Kd.R_drew)); exact HO_8.out)); (case aS => exact (below_size (by repeat (first | (with_reducible first | exact HB.out | apply below_alloc | apply pw_below_drewN | apply below_drew1 | refine below_set ?_ GE120.out) | exact HB.out)))); (case aL => have := LMc26.out; omega); intro v123 w27 ho hb hg hat; rw [← Ny122.out] at ho; have n0_ := Aside0.mk (Kd.S_after (ok := (fun _ => True)) (by (with_reducible repeat (first | apply Kd.S_alloc | apply Kd.S_drewN | apply Kd.S_drew)); exact Kd.S_mono HO_121000.out (fun _ hk => ⟨trivial, hk⟩)) hg hat); have n1_ := Aside0.mk (Kd.R_over' (by (with_reducible repeat (first | apply Kd.R_alloc | apply Kd.R_drewN | apply Kd.R_drew)); exact HO_121001.out) (Kd.R_typed (by (with_reducible repeat (first | apply Kd.R_alloc | apply Kd.R_drewN | apply Kd.R_drew)); exact HO_8.out)) (by decide) hg); have n2_ := Aside0.mk (blk_grown (g := gb120) (o := .cells #[u121000, .slice Ao16 y117.length co16, .int .i64 0, .int .i64 0] 56 (0, 0)) (by (with_reducible repeat (first | refine blk_drewN ?_ _ | refine blk_drew ?_ | refine blk_alloc ?_ _)); exact BK120.out) hg (Kd.R_ne HO_8.out BK120.out (by decide))); have n3_ := Aside0.mk (hb); have n4_ := Aside0.mk (ho); clear HO_121000; clear HO_121001; clear BK120; clear HB; clear HO_8; have HO_121000 := n0_; have HO_121001 := n1_; have BK120 := n2_; have HB := n3_; have HO124 := n4_; clear n0_ n1_ n2_ n3_ n4_; clear ho hb hg hat))
           go_roundg k1
           case measure => have := HK1.out; omega
           case rel => exact ⟨(y122), (wrap64 (x31_1 + 1)), (x121000_1), (u121000), (by first | rfl | (simp; done) | (simp [*]; done)), H', ⟨by have := HK1.out; omega⟩, ⟨by (with_reducible repeat (first | apply Kd.R_alloc | apply Kd.R_drewN | apply Kd.R_drew)); exact HO124.out⟩, ⟨by (with_reducible repeat (first | apply Kd.S_alloc | apply Kd.S_drewN | apply Kd.S_drew)); exact Kd.S_mono HO_121000.out (fun _ hk => hk.2)⟩, ⟨by (with_reducible repeat (first | apply Kd.R_alloc | apply Kd.R_drewN | apply Kd.R_drew)); exact HO_121001.out⟩, ⟨by (with_reducible repeat (first | refine blk_drewN ?_ _ | refine blk_drew ?_ | refine blk_alloc ?_ _)); exact BK120.out⟩, ⟨by repeat (first | (with_reducible first | exact HB.out | apply below_alloc | apply pw_below_drewN | apply below_drew1 | refine below_set ?_ GE120.out) | exact HB.out)⟩⟩
          ·rw [if_neg c26] at H
           exact absurd H (by simp)
         ·rw [if_neg c25] at H
          have c25b0 : decide ((rd l0 x31_1) < 0) = false := decide_eq_false c25
          clear c25
          by_cases c28 : 0 ≤ (rd l0 x31_1)
          ·rw [if_pos c28] at H
           have c28b0 : decide (0 ≤ (rd l0 x31_1)) = true := decide_eq_true c28
           clear c28
           by_cases c29 : (rd l0 x31_1) < (x121000_1.length : Int)
           ·rw [if_pos c29] at H
            have c29b0 : decide ((rd l0 x31_1) < (x121000_1.length : Int)) = true := decide_eq_true c29
            clear c29
            by_cases c30 : (rd_L1 x121000_1 (rd l0 x31_1)).length < 17592186044416
            ·rw [if_pos c30] at H
             have LMc30 := Aside0.mk c30
             clear c30
             obtain ⟨y126, hy126⟩ : ∃ y_ : List Int, y_ = ((rd_L1 x121000_1 (rd l0 x31_1)) ++ [x31_1]) := ⟨_, rfl⟩
             replace H : (treelabel_Assign.l0 k1 x8_1 l0 (l0.length : Int) (wrap64 (x31_1 + 1)) (x121000_1.set ((rd l0 x31_1) : Int).toNat y126) y117 0 0) = some (r1, r2, r3) := by first | (rw [hy126]; with_reducible exact H) | (have H2_ := (Option.bind_some _ _).symm.trans H; rw [hy126]; with_reducible exact H2_) | (have H2_ := (Option.bind_some _ _).symm.trans H; with_reducible exact H2_) | with_reducible exact H | (rw [hy126]; exact H) | exact H
             have Ny126 := Aside0.mk hy126
             clear hy126
             obtain ⟨y129, hy129⟩ : ∃ y_ : List (List Int), y_ = (x121000_1.set ((rd l0 x31_1) : Int).toNat y126) := ⟨_, rfl⟩
             replace H : (treelabel_Assign.l0 k1 x8_1 l0 (l0.length : Int) (wrap64 (x31_1 + 1)) y129 y117 0 0) = some (r1, r2, r3) := by first | (rw [hy129]; with_reducible exact H) | (have H2_ := (Option.bind_some _ _).symm.trans H; rw [hy129]; with_reducible exact H2_) | (have H2_ := (Option.bind_some _ _).symm.trans H; with_reducible exact H2_) | with_reducible exact H | (rw [hy129]; exact H) | exact H
             have Ny129 := Aside0.mk hy129
             clear hy129
             have H' := Aside0.mk H
             clear H
             have p121 : 0 ≤ (x31_1 : Int) := of_decide_eq_true (by first | (with_reducible assumption) | assumption)
             have q121 : x31_1 < (l0.length : Int) := of_decide_eq_true (by first | (with_reducible assumption) | assumption)
             obtain ⟨ad121, e121, hx121_0⟩ := Kd.at_int HR0.out x31_1 p121 q121
             cases e121
             replace hx121_0 := (HB.out.cell (World.block_lt_of_cell? w _ hx121_0)).trans hx121_0
             replace p121 := eq_true p121
             replace q121 := eq_true q121
             try go_wp2
             have n0_ := Aside0.mk (Kd.R_drew HO_8.out)
             have n1_ := Aside0.mk (Kd.S_drew HO_121000.out)
             have n2_ := Aside0.mk (Kd.R_drew HO_121001.out)
             have n3_ := Aside0.mk (blk_drew BK120.out)
             have n4_ := Aside0.mk (below_drew1 HB.out)
             clear HO_8
             clear HO_121000
             clear HO_121001
             clear BK120
             clear HB
             have HO_8 := n0_
             have HO_121000 := n1_
             have HO_121001 := n2_
             have BK120 := n3_
             have HB := n4_
             clear n0_ n1_ n2_ n3_ n4_
             obtain ⟨Ao33, co33, eo33⟩ := Kd.S_slice HO_121000.out
             (first | subst eo33 | (injection eo33 with f1_ f2_ f3_; have f4_ := f1_.symm; have f5_ := f3_.symm; clear f1_ f2_ f3_; subst f4_; subst f5_))
             have p125 : 0 ≤ ((rd l0 x31_1) : Int) := of_decide_eq_true (by first | (with_reducible assumption) | assumption)
             have q125 : (rd l0 x31_1) < (x121000_1.length : Int) := of_decide_eq_true (by first | (with_reducible assumption) | assumption)
             obtain ⟨ad125, A125_0, c125_0, e125, hx125_0, hl125_0, hi125_0⟩ := at_L1 (Kd.S_reads' HO_121000.out).2.2 (rd l0 x31_1) p125 q125
             cases e125
             obtain ⟨ce125, hce125, hMe125, hcc125⟩ := Kd.S_get HO_121000.out [] (rd l0 x31_1) p125 (by first | exact q125 | exact of_decide_eq_true (by first | (with_reducible assumption) | assumption) | (have e_ := (Kd.S_reads' HO_121000.out).1; omega))
             obtain ⟨ve125_0, rfl, ge125_0⟩ := hMe125
             have hv125_0 := hcc125 0 _ rfl
             rw [Nat.add_zero, show ((Kd.slice 3 (Kd.int .i64))).sz = 1 from rfl, Nat.mul_one] at hv125_0
             replace hv125_0 := Option.some.inj (hv125_0.symm.trans hx125_0)
             rw [hv125_0] at ge125_0
             have HL125_0 := Aside0.mk (show Kd.R (Kd.int .i64) 3 _ _ _ _ (rd_L1 x121000_1 (rd l0 x31_1)) from ge125_0)
             clear hv125_0 ge125_0
             have HX125_0 := Aside0.mk hx125_0
             clear hcc125 hce125
             have HR125_0 := Aside0.mk hi125_0
             have HC125_0 := Aside0.mk hl125_0
             clear hi125_0 hl125_0
             replace p125 := eq_true p125
             replace q125 := eq_true q125
             obtain ⟨go34, co34, eo34, gb34, gl34, cl34, HG34⟩ := Kd.S_form HO_121000.out (by have h_ : ((rd l0 x31_1) : Int) < ((x121000_1.length : Int) : Int) := of_decide_eq_true (by first | (with_reducible assumption) | assumption); have h2_ : 0 ≤ ((rd l0 x31_1) : Int) := (of_decide_eq_true (by first | (with_reducible assumption) | assumption)); omega)
             (first | cases eo34 | (injection eo34 with ea_ en_ ec_; (first | subst ea_ | (injection ea_ with ea_; subst ea_)); subst ec_; clear en_))
             have GB34 := Aside0.mk gb34
             have GG34 := Aside0.mk HG34
             clear gb34 gl34 HG34
             (first | simp only [add_plain] at hx125_0 | skip)
             obtain ⟨oki34, ce34, hcl34, hM34, hcc34, _, _, hH34⟩ := Kd.S_elem HO_121000.out [] ((rd l0 x31_1) : Int) (of_decide_eq_true (by first | (with_reducible assumption) | assumption)) (by have h_ : ((rd l0 x31_1) : Int) < ((x121000_1.length : Int) : Int) := of_decide_eq_true (by first | (with_reducible assumption) | assumption); first | exact h_ | (have e_ := (Kd.S_reads' HO_121000.out).1; omega) | simpa using h_)
             obtain ⟨ve34_0, rfl, ge34_0⟩ := hM34
             have hv34 := hcc34 0 _ rfl
             have hX34 := HX125_0.out
             (try simp only [add_plain] at hX34)
             (try simp only [Nat.add_zero] at hv34)
             (try rw [show ((Kd.slice 3 (Kd.int .i64))).sz = 1 from rfl, Nat.mul_one] at hv34)
             replace hv34 := Option.some.inj (hv34.symm.trans hX34)
             subst hv34
             clear hX34 hcc34 hcl34
             have UU34 := Aside0.mk (show Kd.R (Kd.int .i64) 3 _ w.heap.size oki34 (.slice A125_0 (rd_L1 x121000_1 (rd l0 x31_1)).length c125_0) (rd_L1 x121000_1 (rd l0 x31_1)) from ge34_0)
             have HH34 := Aside0.mk hH34
             have HN34 := Aside0.mk (Kd.S_reads' HO_121000.out).1
             clear hH34 ge34_0
             refine start_ (n := 13) (S := fun w' => w'.cell? ⟨gb120, 0, none⟩ = some (.slice (some ⟨go34, 0, none⟩) x121000_1.length co33) ∧ w'.cell? ⟨gb120, 1, none⟩ = some (.slice Ao16 y117.length co16) ∧ w'.cell? ⟨gb120, 2, none⟩ = some (.int .i64 0) ∧ w'.cell? ⟨gb120, 3, none⟩ = some (.int .i64 0) ∧ w'.cell? ⟨go34, ((rd l0 x31_1)).toNat, none⟩ = some (.slice A125_0 (rd_L1 x121000_1 (rd l0 x31_1)).length c125_0)) (ds := [12]) #[false, false, false, false, false, false, false, false, false, false, false, false, false] (by kernel_rfl) rfl rfl ⟨(blk_cell BK120.out 0).trans rfl, (blk_cell BK120.out 1).trans rfl, (blk_cell BK120.out 2).trans rfl, (blk_cell BK120.out 3).trans rfl, hx125_0⟩ (fun hHeld => ?_); refine with_tabW treelabel_Assign.tab11 treelabel_Assign.bits11 (fun HT_ HW_ => ?_)
             generalize wr.drew = w32 at HO_8 HO_121000 HO_121001 BK120 HB GG34 HH34 HL125_0 HR125_0 HX125_0 UU34 hx125_0 hHeld ⊢
             refine pure_ (i := 0) (N := some 42) (v := ?_) (a' := ?_) #[true, false, false, false, false, false, false, false, false, false, false, false, false] rfl rfl (any_of HT_.out (by kernel_rfl)) (fun _ _ _ h => h) (Or.inl ⟨by rfl, ?_⟩) ?_ ?_
             rotate_left
             ·intro w'
              go_simp
              with_reducible rfl
             rotate_left
             ·simp only [Act.put, List.setIfInBounds_toArray, List.set_cons_zero, List.set_cons_succ, i64_w, i32_w]
              rfl
             refine pure_ (i := 2) (N := some 44) (v := ?_) (a' := ?_) #[true, false, true, false, false, false, false, false, false, false, false, false, false] rfl rfl (any_of HT_.out (by kernel_rfl)) (fun _ _ _ h => h) (Or.inl ⟨by rfl, ?_⟩) ?_ ?_
             rotate_left
             ·intro w'
              go_simp
              with_reducible rfl
             rotate_left
             ·simp only [Act.put, List.setIfInBounds_toArray, List.set_cons_zero, List.set_cons_succ, i64_w, i32_w]
              rfl
             refine pure_ (i := 3) (N := some 45) (v := ?_) (a' := ?_) #[true, false, true, true, false, false, false, false, false, false, false, false, false] rfl rfl (any_of HT_.out (by kernel_rfl)) (fun _ _ _ h => h) (Or.inl ⟨by rfl, ?_⟩) ?_ ?_
             rotate_left
             ·intro w'
              go_simp
              with_reducible rfl
             rotate_left
             ·simp only [Act.put, List.setIfInBounds_toArray, List.set_cons_zero, List.set_cons_succ, i64_w, i32_w]
              rfl
             refine pure_ (i := 5) (N := some 47) (v := ?_) (a' := ?_) #[true, false, true, true, false, true, false, false, false, false, false, false, false] rfl rfl (any_of HT_.out (by kernel_rfl)) (fun _ _ _ h => h) (Or.inl ⟨by rfl, ?_⟩) ?_ ?_
             rotate_left
             ·intro w'
              go_simp
              with_reducible rfl
             rotate_left
             ·simp only [Act.put, List.setIfInBounds_toArray, List.set_cons_zero, List.set_cons_succ, i64_w, i32_w]
              rfl
             refine pure_ (i := 8) (N := some 50) (v := ?_) (a' := ?_) #[true, false, true, true, false, true, false, false, true, false, false, false, false] rfl rfl (any_of HT_.out (by kernel_rfl)) (fun _ _ _ h => h) (Or.inl ⟨by rfl, ?_⟩) ?_ ?_
             rotate_left
             ·intro w'
              go_simp
              with_reducible rfl
             rotate_left
             ·simp only [Act.put, List.setIfInBounds_toArray, List.set_cons_zero, List.set_cons_succ, i64_w, i32_w]
              rfl
             refine take_ (i := 1) (N := some 43) (v := ?_) (a' := ?_) #[true, true, true, true, false, true, false, false, true, false, false, false, false] rfl rfl (take_ofW HT_.out HW_.out (by kernel_rfl)) (fun _ _ _ h => h) (Or.inl ⟨by rfl, ?_⟩) hHeld ?_ ?_
             rotate_left
             ·rintro w' ⟨s0, s1, s2, s3, s4⟩
              go_simp
              with_reducible rfl
             rotate_left
             ·simp only [Act.put, List.setIfInBounds_toArray, List.set_cons_zero, List.set_cons_succ, i64_w, i32_w]
              rfl
             refine take_ (i := 4) (N := some 46) (v := ?_) (a' := ?_) #[true, true, true, true, true, true, false, false, true, false, false, false, false] rfl rfl (take_ofW HT_.out HW_.out (by kernel_rfl)) (fun _ _ _ h => h) (Or.inl ⟨by rfl, ?_⟩) hHeld ?_ ?_
             rotate_left
             ·rintro w' ⟨s0, s1, s2, s3, s4⟩
              go_simp
              with_reducible rfl
             rotate_left
             ·simp only [Act.put, List.setIfInBounds_toArray, List.set_cons_zero, List.set_cons_succ, i64_w, i32_w]
              rfl
             refine pure_ (i := 6) (N := some 48) (v := ?_) (a' := ?_) #[true, true, true, true, true, true, true, false, true, false, false, false, false] rfl rfl (any_of HT_.out (by kernel_rfl)) (fun _ _ _ h => h) (Or.inl ⟨by rfl, ?_⟩) ?_ ?_
             rotate_left
             ·intro w'
              go_simp
              with_reducible rfl
             rotate_left
             ·simp only [Act.put, List.setIfInBounds_toArray, List.set_cons_zero, List.set_cons_succ, i64_w, i32_w]
              rfl
             refine take_ (i := 7) (N := some 49) (v := ?_) (a' := ?_) #[true, true, true, true, true, true, true, true, true, false, false, false, false] rfl rfl (take_ofW HT_.out HW_.out (by kernel_rfl)) (fun _ _ _ h => h) (Or.inl ⟨by rfl, ?_⟩) hHeld ?_ ?_
             rotate_left
             ·rintro w' ⟨s0, s1, s2, s3, s4⟩
              go_simp
              with_reducible rfl
             rotate_left
             ·simp only [Act.put, List.setIfInBounds_toArray, List.set_cons_zero, List.set_cons_succ, i64_w, i32_w]
              rfl
             refine one_ (i := 9) (N := some 51) #[true, true, true, true, true, true, true, true, true, true, false, false, false] rfl rfl (one_of HT_.out (by kernel_rfl)) (by decide) (fun K hK => ?_)
             refine value_ (w1 := ?_) (v := ?_) (by rfl) rfl ?_ ?_
             rotate_left 2
             ·go_simp
              constructor
              ·rfl
              ·rfl
             refine hK.out _ _ ⟨(blk_cell (blk_alloc BK120.out _) 0).trans rfl, (blk_cell (blk_alloc BK120.out _) 1).trans rfl, (blk_cell (blk_alloc BK120.out _) 2).trans rfl, (blk_cell (blk_alloc BK120.out _) 3).trans rfl, (World.cell?_alloc_lt _ _ _ (World.block_lt_of_cell? _ _ (hHeld.2.2.2.2))).trans (hHeld.2.2.2.2)⟩ (fun hHeld => ?_)
             clear hK K
             refine norm_ (a' := ?_) ?_ ?_
             rotate_left
             ·show Act.put _ (some 51) _ = _
              simp only [Act.put, List.setIfInBounds_toArray, List.set_cons_zero, List.set_cons_succ, i64_w, i32_w]
              rfl
             refine one_ (i := 10) (N := some 52) #[true, true, true, true, true, true, true, true, true, true, true, false, false] rfl rfl (one_of HT_.out (by kernel_rfl)) (by decide) (fun K hK => ?_)
             refine Kd.R_append_step (Kd.int .i64) (w0 := w) w.heap.size (by rfl) (.tmp 49) (.tmp 51) 22 3 (.int .i64 0) 8 rfl Try.underlying22 info3 rfl (by decide) (by omega) (.slice A125_0 (rd_L1 x121000_1 (rd l0 x31_1)).length c125_0) (rd_L1 x121000_1 (rd l0 x31_1)) x31_1 [.int .i64 x31_1] (fun k_ => oki34 k_ ∨ ((fun k_ => some k_ ≠ (u8 : Value).ownBlock)) k_ ∧ w32.heap.size ≤ k_) (fun _ => False) rfl rfl ?aP (fun _ hk => hk.elim) ?aF ?aO ?aB ?aS ?aL ?_
             (case aP => exact rfl)
             (case aB => exact (by repeat (first | (with_reducible first | exact HB.out | apply below_alloc | apply pw_below_drewN | apply below_drew1 | refine below_set ?_ GE120.out) | exact HB.out)))
             (case aF => exact (fun k_ hk => .inr ⟨Kd.fresh' (Kd.R_lt (by (with_reducible repeat (first | apply Kd.R_alloc | apply Kd.R_drewN | apply Kd.R_drew)); exact HO_8.out)) k_ hk, hk⟩))
             (case aO => exact (by (with_reducible repeat (first | apply Kd.R_alloc | apply Kd.R_drewN | apply Kd.R_drew)); exact Kd.R_mono UU34.out (fun _ hk => .inl hk)))
             (case aS => exact (below_size (by repeat (first | (with_reducible first | exact HB.out | apply below_alloc | apply pw_below_drewN | apply below_drew1 | refine below_set ?_ GE120.out) | exact HB.out))))
             (case aL => have := LMc30.out; omega)
             intro v127 w35 ho hb hg hat
             (first | have HS4_ := cell_grown hg (hHeld.2.2.2.2) (by first | (rw [add_block]; exact (fun e_ => ((HL125_0.out.1 _ e_.symm).2) rfl)) | (show some (Addr.add _ _).block ≠ _; rw [add_block]; exact (fun e_ => ((HL125_0.out.1 _ e_.symm).2) rfl)) | exact (fun e_ => ((HL125_0.out.1 _ e_.symm).2) rfl)) | have HS4_ := cell_grown hg (cell_unalloc (hHeld.2.2.2.2) (by first | (rw [add_block]; exact Kd.S_lt HO_121000.out _ rfl) | (show (Addr.add _ _).block < _; rw [add_block]; exact Kd.S_lt HO_121000.out _ rfl) | exact Kd.S_lt HO_121000.out _ rfl)) (by first | (rw [add_block]; exact (fun e_ => ((HL125_0.out.1 _ e_.symm).2) rfl)) | (show some (Addr.add _ _).block ≠ _; rw [add_block]; exact (fun e_ => ((HL125_0.out.1 _ e_.symm).2) rfl)) | exact (fun e_ => ((HL125_0.out.1 _ e_.symm).2) rfl)))
             rw [← Ny126.out] at ho
             have n0_ := Aside0.mk (Kd.R_grown2 (by (with_reducible repeat (first | apply Kd.R_alloc | apply Kd.R_drewN | apply Kd.R_drew)); exact HO_8.out) rfl hg (fun k_ e_ => (HL125_0.out.1 k_ e_).1))
             have n1_ := Aside0.mk (Kd.R_over' (v := (.slice A125_0 (rd_L1 x121000_1 (rd l0 x31_1)).length c125_0)) (by (with_reducible repeat (first | apply Kd.R_alloc | apply Kd.R_drewN | apply Kd.R_drew)); exact HO_121001.out) (Kd.R_typed HL125_0.out) (by decide) hg)
             have n2_ := Aside0.mk (blk_grown (g := gb120) (o := .cells #[.slice (some ⟨go34, 0, none⟩) x121000_1.length co33, .slice Ao16 y117.length co16, .int .i64 0, .int .i64 0] 56 (0, 0)) (by (with_reducible repeat (first | refine blk_drewN ?_ _ | refine blk_drew ?_ | refine blk_alloc ?_ _)); exact BK120.out) hg (Kd.R_ne HL125_0.out BK120.out (by decide)))
             have n3_ := Aside0.mk (hb)
             have n4_ := Aside0.mk (Kd.H_grown (Kd.H_widen (by repeat (first | exact HH34.out | refine Kd.H_alloc ?_ _ | refine Kd.H_drewN ?_ _ | refine Kd.H_drew ?_))) hg (fun k_ e_ => .inl (UU34.out.1 k_ e_)))
             have n5_ := Aside0.mk (ho)
             clear HO_8
             clear HO_121001
             clear BK120
             clear HB
             clear HH34
             clear HO_121000
             clear UU34
             clear HL125_0
             have HO_8 := n0_
             have HO_121001 := n1_
             have BK120 := n2_
             have HB := n3_
             have HH34 := n4_
             have HO128 := n5_
             clear n0_ n1_ n2_ n3_ n4_ n5_
             clear ho hb hg hat
             have p31 : 0 ≤ ((rd l0 x31_1) : Int) := of_decide_eq_true (by first | (with_reducible assumption) | assumption)
             have q31 : ((rd l0 x31_1) : Int) < ((x121000_1.length : Int) : Int) := of_decide_eq_true (by first | (with_reducible assumption) | assumption)
             replace p31 := eq_true p31
             replace q31 := eq_true q31
             obtain ⟨Ao38, co38, eo38⟩ := Kd.R_slice HO128.out
             (first | subst eo38 | (injection eo38 with f1_ f2_ f3_; have f4_ := f1_.symm; have f5_ := f3_.symm; clear f1_ f2_ f3_; subst f4_; subst f5_))
             obtain ⟨_, _, hraw36, _, _, hcc36, _⟩ := Kd.H_raw HH34.out (of_decide_eq_true (by first | (with_reducible assumption) | assumption)) (by have h_ : ((rd l0 x31_1) : Int) < ((x121000_1.length : Int) : Int) := of_decide_eq_true (by first | (with_reducible assumption) | assumption); first | exact h_ | (have e_ := (HN34.out); omega) | simpa using h_)
             obtain ⟨_, hfr36⟩ := Kd.H_at HH34.out (of_decide_eq_true (by first | (with_reducible assumption) | assumption)) (by have h_ : ((rd l0 x31_1) : Int) < ((x121000_1.length : Int) : Int) := of_decide_eq_true (by first | (with_reducible assumption) | assumption); first | exact h_ | (have e_ := (HN34.out); omega) | simpa using h_)
             have hx36_0 := hcc36 0 _ rfl
             have hf36_0 := hfr36 0
             (try simp only [Nat.add_zero] at hx36_0 hf36_0)
             (try rw [show ((Kd.slice 3 (Kd.int .i64))).sz = 1 from rfl, Nat.mul_one] at hx36_0)
             (try rw [show ((Kd.slice 3 (Kd.int .i64))).sz = 1 from rfl, Nat.mul_one] at hf36_0)
             have HP36 := Kd.S_seg0 HH34.out (of_decide_eq_true (by first | (with_reducible assumption) | assumption)) (by have h_ : ((rd l0 x31_1) : Int) < ((x121000_1.length : Int) : Int) := of_decide_eq_true (by first | (with_reducible assumption) | assumption); first | exact h_ | (have e_ := (HN34.out); omega) | simpa using h_) (seg := [.slice Ao38 y126.length co38]) (j := 0) (show 1 ≤ 1 from by decide) (x' := y126) (Kd.M_row HO128.out) (fun _ hk => hk)
             (try simp only [show ((Kd.slice 3 (Kd.int .i64))).sz = 1 from rfl, Nat.mul_one, Nat.add_zero] at HP36)
             clear hcc36 hfr36
             have HNB120_go34 := Aside0.mk (show gb120 ≠ go34 from by have h_ := Kd.R_ne hraw36 BK120.out (by decide); intro e_; exact h_ (by rw [e_]; rfl))
             have HS36 := HP36.1
             rw [← Ny129.out] at HS36
             have HQ36 := Aside0.mk HS36
             obtain ⟨_, hgg36⟩ := Kd.R_typed hraw36 go34 rfl
             have GG36_ := Aside0.mk hgg36
             clear HP36 HS36 hgg36
             refine hK.out _ _ ⟨(blk_cell BK120.out 0).trans rfl, (blk_cell BK120.out 1).trans rfl, (blk_cell BK120.out 2).trans rfl, (blk_cell BK120.out 3).trans rfl, HS4_⟩ (fun hHeld => ?_)
             clear hK K
             refine norm_ (a' := ?_) ?_ ?_
             rotate_left
             ·show Act.put _ (some 52) _ = _
              simp only [Act.put, List.setIfInBounds_toArray, List.set_cons_zero, List.set_cons_succ, i64_w, i32_w]
              rfl
             refine pure_ (i := 11) (N := some 53) (v := ?_) (a' := ?_) #[true, true, true, true, true, true, true, true, true, true, true, true, false] rfl rfl (any_of HT_.out (by kernel_rfl)) (fun _ _ _ h => h) (Or.inl ⟨by rfl, ?_⟩) ?_ ?_
             rotate_left
             ·intro w'
              go_simp
              with_reducible rfl
             rotate_left
             ·simp only [Act.put, List.setIfInBounds_toArray, List.set_cons_zero, List.set_cons_succ, i64_w, i32_w]
              rfl
             refine last_ (i := 12) (N := none) #[true, true, true, true, true, true, true, true, true, true, true, true, true] rfl rfl (one_of HT_.out (by kernel_rfl)) (by decide) (fun K hK => ?_)
             refine skip_ (w1 := ?_) (by rfl) rfl ?_ ?_
             rotate_left
             ·go_simp
              rfl
             refine hK.out _ _ ?_
             clear hK K
             refine done_ (done_of HT_.out (by kernel_rfl)) ?_
             try go_wp2
             go_roundg k1
             case measure => have := HK1.out; omega
             case rel => exact ⟨(x8_1), (wrap64 (x31_1 + 1)), (y129), (.slice (some ⟨go34, 0, none⟩) x121000_1.length co33), (by first | rfl | (simp; done) | (simp [*]; done)), H', ⟨by have := HK1.out; omega⟩, ⟨by (with_reducible repeat (first | apply Kd.R_alloc | apply Kd.R_drewN | apply Kd.R_drew)); exact Kd.R_mono (Kd.R_far (p := ⟨go34, ((rd l0 x31_1) : Int).toNat, none⟩) (Kd.R_types HO_8.out GG36_.out (by decide)) (fun _ hk => hk.2) (.slice Ao38 y126.length co38)) (fun _ hk => trivial)⟩, ⟨by (with_reducible repeat (first | apply Kd.S_alloc | apply Kd.S_drewN | apply Kd.S_drew)); exact HQ36.out⟩, ⟨by (with_reducible repeat (first | apply Kd.R_alloc | apply Kd.R_drewN | apply Kd.R_drew)); exact Kd.R_mono (Kd.R_far (p := ⟨go34, ((rd l0 x31_1) : Int).toNat, none⟩) (Kd.R_types HO_121001.out GG36_.out (by decide)) (fun _ hk => hk.2) (.slice Ao38 y126.length co38)) (fun _ hk => trivial)⟩, ⟨by (with_reducible repeat (first | refine blk_drewN ?_ _ | refine blk_drew ?_ | refine blk_alloc ?_ _)); refine blk_far ?_ HNB120_go34.out _; (with_reducible repeat (first | refine blk_drewN ?_ _ | refine blk_drew ?_ | refine blk_alloc ?_ _)); exact BK120.out⟩, ⟨by repeat (first | (with_reducible first | exact HB.out | apply below_alloc | apply pw_below_drewN | apply below_drew1 | refine below_set ?_ GB34.out | refine below_set ?_ GE120.out) | exact HB.out)⟩⟩
            ·rw [if_neg c30] at H
             exact absurd H (by simp)
           ·rw [if_neg c29] at H
            exact absurd H (by simp)
          ·rw [if_neg c28] at H
           exact absurd H (by simp)
        ·rw [if_neg c24] at H
         exact absurd H (by simp)
       ·rw [if_neg c23] at H
        exact absurd H (by simp)
      ·rw [if_neg c22] at H
       have c22b0 : decide (x31_1 < (l0.length : Int)) = false := decide_eq_false c22
       clear c22
       have H' := Aside0.mk H
       clear H
       obtain ⟨wo, rfl⟩ : ∃ wo : World, wo = wr := ⟨_, rfl⟩
       have hU := H'.out
       simp only [treelabel_Assign.l1] at hU
       split at hU
       case isFalse => cases hU
       case isTrue hcond =>
       obtain ⟨hnn, hrn, hcl, hyl, hcls, hrl⟩ := hcond
       have hk1 := TP.lim_le k1
       cases hfold : (x8_1.map Int.toNat).foldlM (fun s c => TP.vis (kdc x121000_1) (TP.lim k1) c 0 s) (blank y117.length) with
       | none => rw [hfold] at hU; cases hU
       | some t =>
       rw [hfold] at hU
       simp only at hU
       split at hU
       case isFalse => cases hU
       case isTrue hpp =>
       simp only [Option.some.injEq, Prod.mk.injEq] at hU
       obtain ⟨hr1, rfl, rfl⟩ := hU
       subst hr1
       clear H'
       have hYrep : List.replicate y117.length z41 = y117 := by
        have h1 := Ny117.out
        have h2 := congrArg List.length h1
        rw [List.length_replicate] at h2
        rw [h2]; exact h1.symm
       by_cases hy : 0 < y117.length
       ·obtain ⟨gl, capl, hgl, _, _, _, _⟩ := Kd.R_form HO_121001.out hy
        injection hgl with hg1 _ hg3
        subst hg1; subst hg3
        obtain ⟨curl, hcurl, hlc, hsz, hnc, hcm, hbl⟩ := cells41 (n := y117.length) hy (by rw [hYrep]; exact HO_121001.out)
        obtain ⟨Ac, cc, hAc, hkids⟩ := kids_of (Kd.S_R HO_121000.out) BK120.out hcurl (by decide) (by decide) (by decide) (by decide) (by rw [hcl]; exact hy) hnn
        subst hAc
        rw [hcl] at hkids BK120
        have hgne : gb120 ≠ gl := blk_ne BK120.out hcurl (by decide)
        have HVS0 : Aside0 (VS 56 41 (.slice Ac y117.length cc) gb120 gl y117.length co16 wo wo (blank y117.length)) := ⟨⟨rfl, rfl, rfl, rfl, fun _ _ _ => rfl, BK120.out, ⟨curl, hcurl, hlc, hsz⟩, hgne⟩⟩
        have HKids := Aside0.mk hkids
        have hlen1 : ∀ i, (kdc x121000_1 i).length ≤ 1000000 := by
         intro i
         unfold kdc
         rw [List.length_map, List.getD_eq_getElem?_getD]
         cases hx : x121000_1[i]? with
         | none => simp
         | some c => exact hcls c (List.mem_of_getElem? hx)
        have HLen := Aside0.mk hlen1
        have HFold := Aside0.mk hfold
        have HRn := Aside0.mk hrn
        have HGe := Aside0.mk hbl
        have hup := TP.fold_up (TP.vis_up (TP.lim k1)) _ _ _ hfold
        have HTlen : Aside0 (t.L.length = y117.length) := ⟨by rw [hup.1]; simp [blank]⟩
        have HPP := Aside0.mk hpp
        obtain ⟨Ao39, co39, eo39⟩ := Kd.R_slice HO_8.out
        subst eo39
        have HRow : Aside0 (0 < x8_1.length → ∃ b cap cur, (Value.slice Ao39 x8_1.length co39) = .slice (some ⟨b, 0, none⟩) x8_1.length cap ∧ wo.heap[b]? = some (.cells cur 3 (0, 0)) ∧ ∀ j (hj : j < x8_1.length), wo.cell? ⟨b, j, none⟩ = some (.int .i64 x8_1[j])) := ⟨fun hp => ints_row HO_8.out hp⟩
        have HBG := Aside0.mk BK120.out
        have HBL := Aside0.mk hcurl
        have HBel := HB
        clear hnn hrn hcls hfold hkids hlen1 hup hpp hlc hbl BK120 hcurl HO_121000 HO_121001 HO_8 hYrep hsz hcl
        go_wp2
        go_loopg [57] x8_1.length (fun kq v57 w' => ∃ (j : Nat) (sj : TP.NS), v57 = .int .i64 (j : Int) ∧ j ≤ x8_1.length ∧ Aside0 (kq + j = x8_1.length) ∧ Aside0 (((x8_1.map Int.toNat).drop j).foldlM (fun s c => TP.vis (kdc x121000_1) (TP.lim k1) c 0 s) sj = some t) ∧ Aside0 (sj.L.length = y117.length) ∧ Aside0 (VS 56 41 (.slice Ac y117.length cc) gb120 gl y117.length co16 wo w' sj))
        case atStart => exact ⟨0, blank y117.length, rfl, Nat.zero_le _, ⟨rfl⟩, ⟨by rw [List.drop_zero]; exact HFold.out⟩, ⟨by simp [blank]⟩, ⟨by first | exact HVS0.out | exact HVS0.out.drew | exact HVS0.out.drewN _⟩⟩
        case round =>
         obtain ⟨j, sj, rfl, hj, HK, HFj, HLj, HVj⟩ := hrel
         by_cases hlt : j < x8_1.length
         ·obtain ⟨b, cap, cur, hs, hbk, hcl⟩ := HRow.out (by omega)
          injection hs with e1 _ e3
          subst e1; subst e3
          have hbg : b ≠ gb120 := blk_ne hbk HBG.out (by decide)
          have hbl' : b ≠ gl := blk_ne hbk HBL.out (by decide)
          have hcell : wr.cell? ⟨b, j, none⟩ = some (.int .i64 x8_1[j]) := (HVj.out.far hbg hbl' rfl).trans (hcl j hlt)
          obtain ⟨m', hv, hr⟩ := TP.fold_part _ j (by rw [List.length_map]; exact hlt) HFj.out
          rw [List.getElem_map] at hv
          have hx0 : 0 ≤ x8_1[j] := HRn.out _ (List.getElem_mem hlt)
          have hup := TP.vis_up _ _ _ _ _ hv
          have hup' := TP.fold_up (TP.vis_up (TP.lim k1)) _ _ _ hr
          have e1 := hup.1; have e2 := hup'.2.1; have e3 := hup'.2.2.1; have e4 := HPP.out.1; have e5 := HPP.out.2
          have Hv := Aside0.mk hv
          have Hr := Aside0.mk hr
          have E1 : m'.pre ≤ 1000000 := by omega
          have E2 : m'.post ≤ 1000000 := by omega
          have E3 := Aside0.mk (e1.trans HLj.out)
          have HIX := Aside0.mk (Int.toNat_of_nonneg hx0).symm
          clear hv hr hup hup' hcl e1 e2 e3 e4 e5 HFj hbk
          go_wp2_with (go_at_call 32; refine (visit_calls HKids.out hyl HLen.out (TP.lim k1) _ 0 _ _ sj m' _ HIX.out rfl Hv.out HLj.out E1 E2 (by omega) HVj.out).mono ?_; rintro e w1 ⟨rfl, hV1⟩; have HV1 := Aside0.mk hV1; clear hV1)
          go_roundg (x8_1.length - (j + 1))
          case measure => have := HK.out; omega
          case rel => exact ⟨j + 1, m', by go_num, by omega, ⟨by omega⟩, Hr, E3, HV1⟩
         ·have hfe := HFj.out
          rw [List.drop_of_length_le (by rw [List.length_map]; omega)] at hfe
          obtain rfl := Option.some.inj hfe
          have HR := Aside0.mk (HVj.out.result41 w.heap.size HGe.out HTlen.out hnc hcm)
          have HBf : Aside0 (Below w.heap.size w wr) := ⟨⟨HVj.out.os.trans HBel.out.os, HVj.out.tape.trans HBel.out.tape, HVj.out.output.trans HBel.out.output, by rw [HVj.out.size]; exact HBel.out.size, fun k hk => (HVj.out.keep k (by have := GE120.out; omega) (by have := HGe.out; omega)).trans (HBel.out.block k hk)⟩⟩
          have c0 := HVj.out.cell 0
          have c1 := HVj.out.cell 1
          have c2 := HVj.out.cell 2
          have c3 := HVj.out.cell 3
          simp at c0 c1 c2 c3
          clear hfe HFj HVj
          go_wp2
          go_ret3
          exact ⟨_, rfl, by (with_reducible repeat (first | apply Kd.R_alloc | apply Kd.R_drewN | apply Kd.R_drew)); exact HR.out, by repeat (first | exact HBf.out | apply pw_below_drewN | apply below_drew1)⟩
       ·have hy0 : y117 = [] := List.eq_nil_of_length_eq_zero (by omega)
        have hx0 : x8_1 = [] := by
         cases x8_1 with
         | nil => rfl
         | cons c l =>
          exfalso
          rw [hy0, List.map_cons, List.foldlM_cons] at hfold
          cases hlk : TP.lim k1 with
          | zero => rw [hlk] at hfold; cases hfold
          | succ k' => rw [hlk] at hfold; simp [TP.vis, blank] at hfold
        have HTn : Aside0 (t.L.map lab41 = y117) := by
         rw [hx0] at hfold
         obtain rfl := Option.some.inj hfold
         rw [hy0]
         exact ⟨by simp [blank]⟩
        obtain ⟨Ao39, co39, eo39⟩ := Kd.R_slice HO_8.out
        subst eo39
        have HO_8' := Aside0.mk HO_8.out.1
        have hxl : x8_1.length = 0 := by rw [hx0]; rfl
        clear hfold HO_8 hnn hrn hcls hYrep hcl hy0 hx0 hy hyl hpp
        go_wp2
        go_loopg [57] 0 (fun kq v57 w' => v57 = .int .i64 0 ∧ Aside0 (Kd.R k41 41 w' w.heap.size (fun _ => True) (.slice Ao16 y117.length co16) y117) ∧ Aside0 (w'.heap[gb120]? = some (.cells #[u121000, (.slice Ao16 y117.length co16), .int .i64 0, .int .i64 0] 56 (0, 0))) ∧ Aside0 (Below w.heap.size w w'))
        case atStart => exact ⟨rfl, ⟨by (with_reducible repeat (first | apply Kd.R_alloc | apply Kd.R_drewN | apply Kd.R_drew)); exact HO_121001.out⟩, ⟨by (with_reducible repeat (first | refine blk_drewN ?_ _ | refine blk_drew ?_ | refine blk_alloc ?_ _)); exact BK120.out⟩, ⟨by repeat (first | exact HB.out | apply pw_below_drewN | apply below_drew1)⟩⟩
        case round =>
         clear HO_121001 BK120 HB
         obtain ⟨rfl, HR, BK, HB⟩ := hrel
         have c1 : wr.cell? ⟨gb120, 1, none⟩ = some (.slice Ao16 y117.length co16) := (blk_cell BK.out 1).trans rfl
         go_wp2
         go_ret3
         exact ⟨_, rfl, by rw [HTn.out]; (with_reducible repeat (first | apply Kd.R_alloc | apply Kd.R_drewN | apply Kd.R_drew)); exact HR.out, by repeat (first | exact HB.out | apply pw_below_drewN | apply below_drew1)⟩
   ·rw [if_neg c5] at H
    exact absurd H (by simp)
  ·rw [if_neg c4] at H
   exact absurd H (by simp)
 ·rw [if_neg c3] at H
  have c3b0 : (t113 == 0) = false := beq_eq_false_iff_ne.mpr c3
  have c3b1 : (t113 != 0) = true := bne_iff_ne.mpr c3
  simp only [Option.some.injEq, Prod.mk.injEq] at H
  obtain ⟨rfl, rfl, rfl⟩ := H
  go_enter Try.func11, Try.ntmps11
  go_wp2_with (first | ((with_reducible refine gate_callee (f := 31) rfl ?_); refine goesL_ (some 15) rfl rfl Try.func31 (by kernel_rfl) rfl #[.slice A0 l0.length c0] rfl (by (try simp only [List.map_toArray, List.map_cons, List.map_nil]); first | done | rfl | (simp only [List.length_drop, List.length_take]; rfl)) ?_; (with_reducible refine (treelabel_check.calls k _ _ l0 t112 t113 _ ?side1 ?side2 A2.out).mono ?_); (case side1 => repeat (first | exact HR0.out | (with_reducible refine Kd.C_alloc ?_ _) | (with_reducible refine Kd.C_drewN ?_ _) | (with_reducible refine Kd.C_drew ?_))); (case side2 => exact HC0.out); rintro e w44 ⟨rfl, hb⟩; refine ⟨_, rfl, ?_⟩; have n0_ := Aside0.mk (below_step (by repeat (first | (with_reducible first | exact HB.out | apply below_alloc | apply pw_below_drewN | apply below_drew1) | exact HB.out)) hb); clear HB; have HB := n0_; clear n0_; (try clear hb); (try clear hb2); (try clear hk); (try clear hi)))
  go_ret3
  exact ⟨_, by first | rfl | (simp [errW_none, errW_some] <;> rfl) | (simp [*, errW_none, errW_some] <;> rfl), by first | exact Kd.R_nil _ _ _ _ _ | exact Kd.N_nil _ _ _ _ _ | exact Kd.V_nil _ _ _ _ _ | exact Kd.Q_nil _ _ _ _ _ | exact Kd.S_nil _ _ _ _ _, by repeat (first | (with_reducible first | exact HB.out | apply below_alloc | apply pw_below_drewN | apply below_drew1) | exact HB.out)⟩

end Go.Proofs.Ythjcmodhleoocaa.Q
/- QEq41 -/
namespace Go.Proofs.Ythjcmodhleoocaa.Q
open Go.RowKit Go.Proofs.YthjcmodhleoocaaW.PrintWords Go.Proofs.YthjcmodhleoocaaW.PrintLast Go.Proofs.YthjcmodhleoocaaW.PrintMore
attribute [local go_sem] max2_int min2_int max_two min_two max_three min_three max_four min_four   -- for this text's walks alone
set_option linter.unusedVariables false
set_option linter.unusedSimpArgs false

theorem eqA41 (d : Nat) (w : World) (x0 y0 : Int) (x1 y1 : Int) (x2 y2 : Int) :
    (Op.equalIn (d + 2) 41 (.agg #[.int .i64 x0, .int .i64 x1, .int .i64 x2]) (.agg #[.int .i64 y0, .int .i64 y1, .int .i64 y2])).run Try.prog w = .ok (x0 == y0 && (x1 == y1 && (x2 == y2))) w := by
  refine eqA_of Try.underlying41 (by kernel_rfl) ?_
  refine eqf_cons (by rfl) (by go_simp; rfl) (by go_simp; rfl) (by go_simp) ?_
  refine eqf_cons (by rfl) (by go_simp; rfl) (by go_simp; rfl) (by go_simp) ?_
  exact eqf_last (by rfl) (by go_simp; rfl) (by go_simp; rfl) (by go_simp)
end Go.Proofs.Ythjcmodhleoocaa.Q
/- FTreelabelDominates -/
namespace Go.Proofs.Ythjcmodhleoocaa.Q
open Go.RowKit Go.Proofs.YthjcmodhleoocaaW.PrintWords Go.Proofs.YthjcmodhleoocaaW.PrintLast Go.Proofs.YthjcmodhleoocaaW.PrintMore
attribute [local go_sem] max2_int min2_int max_two min_two max_three min_three max_four min_four   -- for this text's walks alone
set_option linter.unusedVariables false
set_option linter.unusedSimpArgs false
attribute [local go_sem high] eqA41

/-! ### treelabel_Dominates: function 20 -/
def treelabel_Dominates.f (a0_0 : Int) (a0_1 : Int) (a0_2 : Int) (a1_0 : Int) (a1_1 : Int) (a1_2 : Int) : Option (Bool) := if a0_0 < a1_0 then (some (decide (a0_1 > a1_1))) else (some false)
set_option maxHeartbeats 8000000 in
set_option maxRecDepth 100000 in
theorem treelabel_Dominates.calls (a0_0 : Int) (a0_1 : Int) (a0_2 : Int) (a1_0 : Int) (a1_1 : Int) (a1_2 : Int) (r : Bool) (w : World) (h : treelabel_Dominates.f a0_0 a0_1 a0_2 a1_0 a1_1 a1_2 = some r) :
  Calls Try.prog 20 #[.agg #[.int .i64 a0_0, .int .i64 a0_1, .int .i64 a0_2], .agg #[.int .i64 a1_0, .int .i64 a1_1, .int .i64 a1_2]] w fun e w' => e = .returned (.bool r) ∧ Below w.heap.size w w' := by
 have hu41 := Try.underlying41
 have HB := Aside0.mk (Below.refl w.heap.size w)
 have H : (if a0_0 < a1_0 then (some (decide (a0_1 > a1_1))) else (some false)) = some r := h
 clear h
 by_cases c3 : a0_0 < a1_0
 ·rw [if_pos c3] at H
  have c3b0 : decide (a0_0 < a1_0) = true := decide_eq_true c3
  clear c3
  obtain rfl := Option.some.inj H
  go_enter Try.func20, Try.ntmps20
  go_wp2_with (first | ((with_reducible refine gate_dst (N := 2) rfl ?_); refine box_event ?hg (N := 2) ?hd (cs := #[.int .i64 a0_0, .int .i64 a0_1, .int .i64 a0_2]) (t := 41) ?hr ?_; (case hd => rfl); (case hg => rfl); (case hr => first | (go_simp; done) | (go_simp; rfl)); intro gb141 hg w4 hbox hb; have n0_ := Aside0.mk (below_step (by repeat (first | (with_reducible first | exact HB.out | apply below_alloc | apply pw_below_drewN | apply below_drew1) | exact HB.out)) hb); have n1_ := Aside0.mk (hbox); have n2_ := Aside0.mk ((by rw [hg]; exact (below_size (by repeat (first | (with_reducible first | exact HB.out | apply below_alloc | apply pw_below_drewN | apply below_drew1) | exact HB.out))) : w.heap.size ≤ gb141)); have n3_ := Aside0.mk ((by rw [hg]; exact (below_size (by repeat (first | (with_reducible first | exact HB.out | apply below_alloc | apply pw_below_drewN | apply below_drew1) | exact HB.out))) : w.heap.size ≤ gb141)); clear HB; have HB := n0_; have BK141 := n1_; have GW141 := n2_; have GE141 := n3_; clear n0_ n1_ n2_ n3_; clear hb hbox hg) | ((with_reducible refine gate_dst (N := 3) rfl ?_); refine box_event ?hg (N := 3) ?hd (cs := #[.int .i64 a1_0, .int .i64 a1_1, .int .i64 a1_2]) (t := 41) ?hr ?_; (case hd => rfl); (case hg => rfl); (case hr => first | (go_simp; done) | (go_simp; rfl)); intro gb142 hg w5 hbox hb; have n0_ := Aside0.mk (blk_below (g := gb141) (o := .cells #[.int .i64 a0_0, .int .i64 a0_1, .int .i64 a0_2] 41 (0, 0)) (by (with_reducible repeat (first | refine blk_drewN ?_ _ | refine blk_drew ?_ | refine blk_alloc ?_ _)); exact BK141.out) hb); have n1_ := Aside0.mk (below_step (by repeat (first | (with_reducible first | exact HB.out | apply below_alloc | apply pw_below_drewN | apply below_drew1 | refine below_set ?_ GE141.out) | exact HB.out)) hb); have n2_ := Aside0.mk (hbox); have n3_ := Aside0.mk ((by rw [hg]; exact (below_size (by repeat (first | (with_reducible first | exact HB.out | apply below_alloc | apply pw_below_drewN | apply below_drew1 | refine below_set ?_ GE141.out) | exact HB.out))) : w.heap.size ≤ gb142)); have n4_ := Aside0.mk ((by rw [hg]; exact (below_size (by repeat (first | (with_reducible first | exact HB.out | apply below_alloc | apply pw_below_drewN | apply below_drew1 | refine below_set ?_ GE141.out) | exact HB.out))) : w.heap.size ≤ gb142)); have n5_ := Aside0.mk ((by rw [hg]; exact Nat.ne_of_lt (blk_lt (g := gb141) (o := .cells #[.int .i64 a0_0, .int .i64 a0_1, .int .i64 a0_2] 41 (0, 0)) (by (with_reducible repeat (first | refine blk_drewN ?_ _ | refine blk_drew ?_ | refine blk_alloc ?_ _)); exact BK141.out)) : gb141 ≠ gb142)); have n6_ := Aside0.mk ((by rw [hg]; exact Nat.ne_of_gt (blk_lt (g := gb141) (o := .cells #[.int .i64 a0_0, .int .i64 a0_1, .int .i64 a0_2] 41 (0, 0)) (by (with_reducible repeat (first | refine blk_drewN ?_ _ | refine blk_drew ?_ | refine blk_alloc ?_ _)); exact BK141.out)) : gb142 ≠ gb141)); clear BK141; clear HB; have BK141 := n0_; have HB := n1_; have BK142 := n2_; have GW142 := n3_; have GE142 := n4_; have NB141_142 := n5_; have NB142_141 := n6_; clear n0_ n1_ n2_ n3_ n4_ n5_ n6_; clear hb hbox hg; have hnb6 := NB141_142.out; have hnc6 := NB142_141.out; have hcz7_0 : w5.cell? ⟨gb141, 0, none⟩ = some (.int .i64 a0_0) := (blk_cell BK141.out 0).trans rfl; have hcz7_1 : w5.cell? ⟨gb141, 1, none⟩ = some (.int .i64 a0_1) := (blk_cell BK141.out 1).trans rfl; have hcz7_2 : w5.cell? ⟨gb141, 2, none⟩ = some (.int .i64 a0_2) := (blk_cell BK141.out 2).trans rfl; have hfz7_0 := blk_frozen BK141.out 0; have hfz7_1 := blk_frozen BK141.out 1; have hfz7_2 := blk_frozen BK141.out 2; have hcz8_0 : w5.cell? ⟨gb142, 0, none⟩ = some (.int .i64 a1_0) := (blk_cell BK142.out 0).trans rfl; have hcz8_1 : w5.cell? ⟨gb142, 1, none⟩ = some (.int .i64 a1_1) := (blk_cell BK142.out 1).trans rfl; have hcz8_2 : w5.cell? ⟨gb142, 2, none⟩ = some (.int .i64 a1_2) := (blk_cell BK142.out 2).trans rfl; have hfz8_0 := blk_frozen BK142.out 0; have hfz8_1 := blk_frozen BK142.out 1; have hfz8_2 := blk_frozen BK142.out 2))
  go_ret
  exact ⟨by first | rfl | (simp [errW_none, errW_some] <;> rfl) | (simp [*, errW_none, errW_some] <;> rfl), by repeat (first | (with_reducible first | exact HB.out | apply below_alloc | apply pw_below_drewN | apply below_drew1 | refine below_set ?_ GE141.out | refine below_set ?_ GE142.out) | exact HB.out)⟩
 ·rw [if_neg c3] at H
  have c3b0 : decide (a0_0 < a1_0) = false := decide_eq_false c3
  clear c3
  obtain rfl := Option.some.inj H
  go_enter Try.func20, Try.ntmps20
  go_wp2_with (first | ((with_reducible refine gate_dst (N := 2) rfl ?_); refine box_event ?hg (N := 2) ?hd (cs := #[.int .i64 a0_0, .int .i64 a0_1, .int .i64 a0_2]) (t := 41) ?hr ?_; (case hd => rfl); (case hg => rfl); (case hr => first | (go_simp; done) | (go_simp; rfl)); intro gb141 hg w9 hbox hb; have n0_ := Aside0.mk (below_step (by repeat (first | (with_reducible first | exact HB.out | apply below_alloc | apply pw_below_drewN | apply below_drew1) | exact HB.out)) hb); have n1_ := Aside0.mk (hbox); have n2_ := Aside0.mk ((by rw [hg]; exact (below_size (by repeat (first | (with_reducible first | exact HB.out | apply below_alloc | apply pw_below_drewN | apply below_drew1) | exact HB.out))) : w.heap.size ≤ gb141)); have n3_ := Aside0.mk ((by rw [hg]; exact (below_size (by repeat (first | (with_reducible first | exact HB.out | apply below_alloc | apply pw_below_drewN | apply below_drew1) | exact HB.out))) : w.heap.size ≤ gb141)); clear HB; have HB := n0_; have BK141 := n1_; have GW141 := n2_; have GE141 := n3_; clear n0_ n1_ n2_ n3_; clear hb hbox hg) | ((with_reducible refine gate_dst (N := 3) rfl ?_); refine box_event ?hg (N := 3) ?hd (cs := #[.int .i64 a1_0, .int .i64 a1_1, .int .i64 a1_2]) (t := 41) ?hr ?_; (case hd => rfl); (case hg => rfl); (case hr => first | (go_simp; done) | (go_simp; rfl)); intro gb142 hg w10 hbox hb; have n0_ := Aside0.mk (blk_below (g := gb141) (o := .cells #[.int .i64 a0_0, .int .i64 a0_1, .int .i64 a0_2] 41 (0, 0)) (by (with_reducible repeat (first | refine blk_drewN ?_ _ | refine blk_drew ?_ | refine blk_alloc ?_ _)); exact BK141.out) hb); have n1_ := Aside0.mk (below_step (by repeat (first | (with_reducible first | exact HB.out | apply below_alloc | apply pw_below_drewN | apply below_drew1 | refine below_set ?_ GE141.out) | exact HB.out)) hb); have n2_ := Aside0.mk (hbox); have n3_ := Aside0.mk ((by rw [hg]; exact (below_size (by repeat (first | (with_reducible first | exact HB.out | apply below_alloc | apply pw_below_drewN | apply below_drew1 | refine below_set ?_ GE141.out) | exact HB.out))) : w.heap.size ≤ gb142)); have n4_ := Aside0.mk ((by rw [hg]; exact (below_size (by repeat (first | (with_reducible first | exact HB.out | apply below_alloc | apply pw_below_drewN | apply below_drew1 | refine below_set ?_ GE141.out) | exact HB.out))) : w.heap.size ≤ gb142)); have n5_ := Aside0.mk ((by rw [hg]; exact Nat.ne_of_lt (blk_lt (g := gb141) (o := .cells #[.int .i64 a0_0, .int .i64 a0_1, .int .i64 a0_2] 41 (0, 0)) (by (with_reducible repeat (first | refine blk_drewN ?_ _ | refine blk_drew ?_ | refine blk_alloc ?_ _)); exact BK141.out)) : gb141 ≠ gb142)); have n6_ := Aside0.mk ((by rw [hg]; exact Nat.ne_of_gt (blk_lt (g := gb141) (o := .cells #[.int .i64 a0_0, .int .i64 a0_1, .int .i64 a0_2] 41 (0, 0)) (by (with_reducible repeat (first | refine blk_drewN ?_ _ | refine blk_drew ?_ | refine blk_alloc ?_ _)); exact BK141.out)) : gb142 ≠ gb141)); clear BK141; clear HB; have BK141 := n0_; have HB := n1_; have BK142 := n2_; have GW142 := n3_; have GE142 := n4_; have NB141_142 := n5_; have NB142_141 := n6_; clear n0_ n1_ n2_ n3_ n4_ n5_ n6_; clear hb hbox hg; have hnb11 := NB141_142.out; have hnc11 := NB142_141.out; have hcz12_0 : w10.cell? ⟨gb141, 0, none⟩ = some (.int .i64 a0_0) := (blk_cell BK141.out 0).trans rfl; have hcz12_1 : w10.cell? ⟨gb141, 1, none⟩ = some (.int .i64 a0_1) := (blk_cell BK141.out 1).trans rfl; have hcz12_2 : w10.cell? ⟨gb141, 2, none⟩ = some (.int .i64 a0_2) := (blk_cell BK141.out 2).trans rfl; have hfz12_0 := blk_frozen BK141.out 0; have hfz12_1 := blk_frozen BK141.out 1; have hfz12_2 := blk_frozen BK141.out 2; have hcz13_0 : w10.cell? ⟨gb142, 0, none⟩ = some (.int .i64 a1_0) := (blk_cell BK142.out 0).trans rfl; have hcz13_1 : w10.cell? ⟨gb142, 1, none⟩ = some (.int .i64 a1_1) := (blk_cell BK142.out 1).trans rfl; have hcz13_2 : w10.cell? ⟨gb142, 2, none⟩ = some (.int .i64 a1_2) := (blk_cell BK142.out 2).trans rfl; have hfz13_0 := blk_frozen BK142.out 0; have hfz13_1 := blk_frozen BK142.out 1; have hfz13_2 := blk_frozen BK142.out 2))
  go_ret
  exact ⟨by first | rfl | (simp [errW_none, errW_some] <;> rfl) | (simp [*, errW_none, errW_some] <;> rfl), by repeat (first | (with_reducible first | exact HB.out | apply below_alloc | apply pw_below_drewN | apply below_drew1 | refine below_set ?_ GE141.out | refine below_set ?_ GE142.out) | exact HB.out)⟩

end Go.Proofs.Ythjcmodhleoocaa.Q
