/- For every corpus that comes in, TopConstituents returns true and leaves the corpus as it was; the listed variables are tied to the program's text. (Part 1.) -/
import Derived.Test.YthjcmodhleoocaaGreatDoorProg
import Derived.OwnWalk
import Derived.Below
import Derived.Deep.Draws
import Derived.KernelRfl
import Derived.Laws.AppendOwn
import Derived.OpenShut
import Derived.ChangeOld
set_option linter.unusedVariables false
set_option linter.unusedSimpArgs false
set_option linter.unusedSectionVars false
/- ZTPure -/
namespace Go.Proofs.YthjcmodhleoocaaGreatDoor.TP

/-- A node's label: its places in preorder and in postorder, its depth. -/
structure Lab where
  pre : Nat
  post : Nat
  dep : Nat
deriving DecidableEq, Inhabited

/-- The state of the numbering. -/
structure NS where
  L : List Lab
  pre : Nat
  post : Nat

def enter (i d : Nat) (s : NS) : NS := ⟨s.L.modify i (fun x => { x with pre := s.pre, dep := d }), s.pre + 1, s.post⟩
def leave (i : Nat) (s : NS) : NS := ⟨s.L.modify i (fun x => { x with post := s.post }), s.pre, s.post + 1⟩

/-- A node and the trees of its children; k: how many levels at most. -/
def vis (kd : Nat → List Nat) : Nat → Nat → Nat → NS → Option NS
  | 0, _, _, _ => none
  | k + 1, i, d, s => if i < s.L.length then ((kd i).foldlM (fun s c => vis kd k c (d + 1) s) (enter i d s)).map (leave i) else none

theorem enter_len (i d : Nat) (s : NS) : (enter i d s).L.length = s.L.length := by simp [enter]
theorem leave_len (i : Nat) (s : NS) : (leave i s).L.length = s.L.length := by simp [leave]

/-- What the numbering only raises or keeps. -/
def Up (s t : NS) : Prop := t.L.length = s.L.length ∧ s.pre ≤ t.pre ∧ s.post ≤ t.post ∧ t.pre - s.pre = t.post - s.post
theorem Up.refl (s : NS) : Up s s := ⟨rfl, Nat.le_refl _, Nat.le_refl _, by omega⟩
theorem Up.trans {a b c : NS} (h : Up a b) (k : Up b c) : Up a c := ⟨k.1.trans h.1, by have := h.2.1; have := k.2.1; omega, by have := h.2.2.1; have := k.2.2.1; omega, by have := h.2; have := k.2; omega⟩

theorem fold_up {kd : Nat → List Nat} {k d : Nat} (ih : ∀ i d s t, vis kd k i d s = some t → Up s t) : ∀ (l : List Nat) (s t : NS), l.foldlM (fun s c => vis kd k c d s) s = some t → Up s t := by
  intro l
  induction l with
  | nil => intro s t h; obtain rfl := Option.some.inj h; exact Up.refl _
  | cons c l ihl =>
    intro s t h
    rw [List.foldlM_cons] at h
    cases hv : vis kd k c d s with
    | none => rw [hv] at h; cases h
    | some m => rw [hv] at h; exact (ih _ _ _ _ hv).trans (ihl _ _ h)

theorem vis_up {kd : Nat → List Nat} (k : Nat) : ∀ i d s t, vis kd k i d s = some t → Up s t := by
  induction k with
  | zero => intro i d s t h; cases h
  | succ k ih =>
    intro i d s t h
    simp only [vis] at h
    split at h
    · cases hf : (kd i).foldlM (fun s c => vis kd k c (d + 1) s) (enter i d s) with
      | none => rw [hf] at h; cases h
      | some m =>
        rw [hf] at h
        obtain rfl := Option.some.inj h
        have h1 := fold_up ih _ _ _ hf
        obtain ⟨a, b, c, e⟩ := h1
        rw [enter_len] at a
        exact ⟨by rw [leave_len, a], by simp only [enter] at b; simp only [leave]; omega, by simp only [enter] at c; simp only [leave]; omega, by simp only [enter] at b c e; simp only [leave]; omega⟩
    · cases h

theorem fold_part {kd : Nat → List Nat} {k d : Nat} (l : List Nat) (j : Nat) (hj : j < l.length) {s t : NS} (h : (l.drop j).foldlM (fun s c => vis kd k c d s) s = some t) :
    ∃ m, vis kd k l[j] d s = some m ∧ (l.drop (j + 1)).foldlM (fun s c => vis kd k c d s) m = some t := by
  rw [List.drop_eq_getElem_cons hj, List.foldlM_cons] at h
  cases hv : vis kd k l[j] d s with
  | none => rw [hv] at h; cases h
  | some m => rw [hv] at h; exact ⟨m, rfl, h⟩

/-- The children of p, from index j on. -/
def kidsFrom (ps : List Int) (p : Int) (j : Nat) : List Nat := (List.range' j (ps.length - j)).filter (fun i => ps.getD i 0 == p)
/-- The children of a node (or, for -1, the roots), in order. -/
def kidsOf (ps : List Int) (p : Int) : List Nat := kidsFrom ps p 0
theorem kidsFrom_end (ps : List Int) (p : Int) (j : Nat) (h : ps.length ≤ j) : kidsFrom ps p j = [] := by
  unfold kidsFrom; rw [Nat.sub_eq_zero_of_le h]; rfl
theorem kidsFrom_hit (ps : List Int) (p : Int) (j : Nat) (h : j < ps.length) (e : ps.getD j 0 = p) : kidsFrom ps p j = j :: kidsFrom ps p (j + 1) := by
  unfold kidsFrom
  obtain ⟨m, hm⟩ : ∃ m, ps.length - j = m + 1 := ⟨ps.length - j - 1, by omega⟩
  rw [hm, show ps.length - (j + 1) = m from by omega, List.range'_succ, List.filter_cons, if_pos (beq_iff_eq.2 e)]
theorem kidsFrom_miss (ps : List Int) (p : Int) (j : Nat) (h : j < ps.length) (e : ¬ ps.getD j 0 = p) : kidsFrom ps p j = kidsFrom ps p (j + 1) := by
  unfold kidsFrom
  obtain ⟨m, hm⟩ : ∃ m, ps.length - j = m + 1 := ⟨ps.length - j - 1, by omega⟩
  rw [hm, show ps.length - (j + 1) = m from by omega, List.range'_succ, List.filter_cons, if_neg (by rw [beq_iff_eq]; exact e)]
theorem mem_kidsOf {ps : List Int} {p : Int} {i : Nat} : i ∈ kidsOf ps p ↔ i < ps.length ∧ ps.getD i 0 = p := by
  simp [kidsOf, kidsFrom, List.mem_filter, List.mem_range'_1]
theorem kidsOf_length (ps : List Int) (p : Int) : (kidsOf ps p).length ≤ ps.length := by
  have := List.length_filter_le (fun i => ps.getD i 0 == p) (List.range' 0 (ps.length - 0))
  simp [kidsOf, kidsFrom] at *; omega
/-- The forest's numbering of a list of parents. -/
def kd (ps : List Int) (i : Nat) : List Nat := kidsOf ps (i : Int)
def visL (ps : List Int) (k : Nat) (l : List Nat) (d : Nat) (s : NS) : Option NS := l.foldlM (fun s c => vis (kd ps) k c d s) s
theorem vis_succ (ps : List Int) (k i d : Nat) (s : NS) : vis (kd ps) (k + 1) i d s = if i < s.L.length then (visL ps k (kd ps i) (d + 1) (enter i d s)).map (leave i) else none := rfl
theorem visL_cons (ps : List Int) (k c : Nat) (l : List Nat) (d : Nat) (s : NS) : visL ps k (c :: l) d s = (vis (kd ps) k c d s).bind (visL ps k l d) := by
  unfold visL; rw [List.foldlM_cons]; rfl
theorem visL_nil (ps : List Int) (k d : Nat) (s : NS) : visL ps k [] d s = some s := rfl
theorem visL_up {ps : List Int} {k d : Nat} (l : List Nat) (s t : NS) (h : visL ps k l d s = some t) : Up s t := fold_up (vis_up k) l s t h
/-- So many levels at most. -/
def lim (k : Nat) : Nat := min k 1000000
theorem lim_le (k : Nat) : lim k ≤ 1000000 := Nat.min_le_right _ _
theorem lim_of {k : Nat} (h : k ≤ 1000000) : lim k = k := Nat.min_eq_left h
theorem lim_step (k : Nat) : lim (k + 1) = lim k ∨ lim (k + 1) = lim k + 1 := by unfold lim; omega

theorem fold_more {kd : Nat → List Nat} {k d : Nat} (ih : ∀ i d s t, vis kd k i d s = some t → vis kd (k + 1) i d s = some t) : ∀ (l : List Nat) (s t : NS), l.foldlM (fun s c => vis kd k c d s) s = some t → l.foldlM (fun s c => vis kd (k + 1) c d s) s = some t := by
  intro l
  induction l with
  | nil => intro s t h; exact h
  | cons c l ihl =>
    intro s t h
    rw [List.foldlM_cons] at h ⊢
    cases hv : vis kd k c d s with
    | none => rw [hv] at h; cases h
    | some m =>
      rw [hv] at h
      rw [ih _ _ _ _ hv]
      exact ihl _ _ h
/-- More levels: the same answer. -/
theorem vis_more {kd : Nat → List Nat} (k : Nat) : ∀ i d s t, vis kd k i d s = some t → vis kd (k + 1) i d s = some t := by
  induction k with
  | zero => intro i d s t h; cases h
  | succ k ih =>
    intro i d s t h
    rw [vis] at h ⊢
    split at h
    · rename_i hi
      rw [if_pos hi]
      cases hf : (kd i).foldlM (fun s c => vis kd k c (d + 1) s) (enter i d s) with
      | none => rw [hf] at h; cases h
      | some m =>
        rw [hf] at h
        rw [fold_more ih _ _ _ hf]
        exact h
    · cases h
theorem fold_lim {kd : Nat → List Nat} {k d : Nat} {l : List Nat} {s t : NS} (h : l.foldlM (fun s c => vis kd (lim k) c d s) s = some t) : l.foldlM (fun s c => vis kd (lim (k + 1)) c d s) s = some t := by
  rcases lim_step k with e | e
  · rw [e]; exact h
  · rw [e]; exact fold_more (vis_more _) _ _ _ h
theorem visL_lim {ps : List Int} {k d : Nat} {l : List Nat} {s t : NS} (h : visL ps (lim k) l d s = some t) : visL ps (lim (k + 1)) l d s = some t := fold_lim h
end Go.Proofs.YthjcmodhleoocaaGreatDoor.TP
/- ZUp -/
namespace Go.Proofs.YthjcmodhleoocaaGreatDoor.TP

theorem pigeon : ∀ (n : Nat) (f : Nat → Nat), (∀ i, i ≤ n → f i < n) → ∃ i j, i < j ∧ j ≤ n ∧ f i = f j := by
  intro n
  induction n with
  | zero => intro f h; exact absurd (h 0 (Nat.le_refl _)) (Nat.not_lt_zero _)
  | succ n ih =>
    intro f h
    by_cases hx : ∃ i, i ≤ n ∧ f i = f (n + 1)
    · obtain ⟨i, hi, e⟩ := hx
      exact ⟨i, n + 1, by omega, Nat.le_refl _, e⟩
    · have hne : ∀ i, i ≤ n → f i ≠ f (n + 1) := fun i hi e => hx ⟨i, hi, e⟩
      obtain ⟨i, j, hij, hj, e⟩ := ih (fun i => if f i = n then f (n + 1) else f i) (fun i hi => by
        have h1 := h i (by omega)
        have h2 := h (n + 1) (Nat.le_refl _)
        have h3 := hne i hi
        show (if f i = n then f (n + 1) else f i) < n
        split <;> omega)
      refine ⟨i, j, hij, by omega, ?_⟩
      have h3 := hne i (by omega)
      have h4 := hne j hj
      split at e <;> split at e <;> omega

/-- Distinct members of a list that all lie in another: no more of them. -/
theorem inj_le (n m : Nat) (f : Nat → Nat) (hf : ∀ i, i < n → f i < m) (hi : ∀ i j, i < n → j < n → f i = f j → i = j) : n ≤ m := by
  rcases Nat.lt_or_ge m n with h | h
  · obtain ⟨i, j, hij, hj, e⟩ := pigeon m f (fun i hi' => hf i (by omega))
    have := hi i j (by omega) (by omega) e
    omega
  · exact h

/-- The element at an index. -/
def rdi (ps : List Int) (x : Int) : Int := ps.getD x.toNat 0
/-- One step up; what is no node stays. -/
def stp (ps : List Int) (x : Int) : Int := if x < 0 then x else rdi ps x
def up (ps : List Int) : Nat → Int → Int
  | 0, x => x
  | m + 1, x => up ps m (stp ps x)
theorem stp_neg {ps : List Int} {x : Int} (h : x < 0) : stp ps x = x := if_pos h
theorem stp_nn {ps : List Int} {x : Int} (h : 0 ≤ x) : stp ps x = rdi ps x := if_neg (by omega)
theorem up_succ (ps : List Int) (m : Nat) (x : Int) : up ps (m + 1) x = up ps m (stp ps x) := rfl
theorem up_out (ps : List Int) (m : Nat) : ∀ x, up ps (m + 1) x = stp ps (up ps m x) := by
  induction m with
  | zero => intro x; rfl
  | succ m ih => intro x; rw [up_succ, ih]; rfl
theorem up_add (ps : List Int) (a b : Nat) (x : Int) : up ps (a + b) x = up ps a (up ps b x) := by
  induction a generalizing b x with
  | zero => rw [Nat.zero_add]; rfl
  | succ a ih => rw [show a + 1 + b = a + (b + 1) from by omega, ih, up_out, up_succ]
theorem up_neg {ps : List Int} {x : Int} (m : Nat) (h : x < 0) : up ps m x = x := by
  induction m with
  | zero => rfl
  | succ m ih => rw [up_succ, stp_neg h, ih]
theorem up_nn_of {ps : List Int} {x : Int} {a b : Nat} (hab : a ≤ b) (h : 0 ≤ up ps b x) : 0 ≤ up ps a x := by
  rcases Int.lt_or_le (up ps a x) 0 with h1 | h1
  · have : up ps b x = up ps a x := by rw [show b = (b - a) + a from by omega, up_add, up_neg _ h1]
    omega
  · exact h1

/-- All parents are nodes or -1. -/
def InR (ps : List Int) : Prop := ∀ x : Int, 0 ≤ x → x < ps.length → -1 ≤ rdi ps x ∧ rdi ps x < ps.length
theorem up_range {ps : List Int} (h : InR ps) {x : Int} (hx : -1 ≤ x) (hx' : x < ps.length) (m : Nat) : -1 ≤ up ps m x ∧ up ps m x < ps.length := by
  induction m with
  | zero => exact ⟨hx, hx'⟩
  | succ m ih =>
    rw [up_out]
    rcases Int.lt_or_le (up ps m x) 0 with h1 | h1
    · rw [stp_neg h1]; exact ih
    · rw [stp_nn h1]; exact h _ h1 ih.2

/-- A node from which the parents lead back to it. -/
def Cyc (ps : List Int) (x : Int) : Prop := 0 ≤ x ∧ ∃ m, 0 < m ∧ up ps m x = x
theorem cyc_mul {ps : List Int} {x : Int} {m : Nat} (h : up ps m x = x) (c : Nat) : up ps (c * m) x = x := by
  induction c with
  | zero => rw [Nat.zero_mul]; rfl
  | succ c ih => rw [Nat.succ_mul, up_add, h, ih]
theorem cyc_up_nn {ps : List Int} {x : Int} (h : Cyc ps x) (i : Nat) : 0 ≤ up ps i x := by
  obtain ⟨hx, m, hm, e⟩ := h
  have h1 := cyc_mul e i
  refine up_nn_of (b := i * m) (Nat.le_mul_of_pos_right i hm) ?_
  rw [h1]; exact hx
theorem cyc_up {ps : List Int} {x : Int} (h : Cyc ps x) (i : Nat) : Cyc ps (up ps i x) := by
  refine ⟨cyc_up_nn h i, ?_⟩
  obtain ⟨_, m, hm, e⟩ := h
  exact ⟨m, hm, by rw [← up_add, Nat.add_comm, up_add, e]⟩
/-- On a cycle every later point leads back. -/
theorem cyc_back {ps : List Int} {x : Int} (h : Cyc ps x) (i : Nat) : ∃ j, up ps j (up ps i x) = x := by
  obtain ⟨_, m, hm, e⟩ := h
  have h1 := cyc_mul e i
  have h2 : i ≤ i * m := Nat.le_mul_of_pos_right i hm
  exact ⟨i * m - i, by rw [← up_add, Nat.sub_add_cancel h2, h1]⟩
theorem natAbs_lt {x : Int} {n : Nat} (h0 : 0 ≤ x) (h1 : x < n) : x.toNat < n := by omega
/-- A repetition within the first n steps. -/
theorem up_repeat {ps : List Int} (h : InR ps) {x : Int} (hx : x < ps.length) (hn : ∀ i, i ≤ ps.length → 0 ≤ up ps i x) : ∃ i j, i < j ∧ j ≤ ps.length ∧ up ps i x = up ps j x := by
  have h0 : -1 ≤ x := by have := hn 0 (Nat.zero_le _); simp only [up] at this; omega
  obtain ⟨i, j, hij, hj, e⟩ := pigeon ps.length (fun i => (up ps i x).toNat) (fun i hi => natAbs_lt (hn i hi) (up_range h h0 hx i).2)
  have hi' := hn i (by omega)
  have hj' := hn j hj
  exact ⟨i, j, hij, hj, by have e2 : (up ps i x).toNat = (up ps j x).toNat := e; omega⟩
/-- The way back is no longer than the list. -/
theorem cyc_short {ps : List Int} (h : InR ps) {x : Int} (hx : x < ps.length) (hc : Cyc ps x) : ∃ m, 0 < m ∧ m ≤ ps.length ∧ up ps m x = x := by
  obtain ⟨i, j, hij, hj, e⟩ := up_repeat h hx (fun i _ => cyc_up_nn hc i)
  obtain ⟨b, hb⟩ := cyc_back hc i
  refine ⟨j - i, by omega, by omega, ?_⟩
  have h1 : up ps (b + j) x = x := by rw [up_add, ← e, hb]
  have h2 : up ps (b + i) x = x := by rw [up_add, hb]
  have h3 : b + j = (j - i) + (b + i) := by omega
  rw [h3, up_add, h2] at h1
  exact h1
/-- No cycle: every way ends. -/
theorem ends_of {ps : List Int} (h : InR ps) (hc : ∀ x : Int, 0 ≤ x → x < ps.length → ¬ Cyc ps x) {x : Int} (hx0 : 0 ≤ x) (hx : x < ps.length) : ∃ m, m ≤ ps.length ∧ up ps m x < 0 := by
  by_cases hn : ∃ i, i ≤ ps.length ∧ up ps i x < 0
  · exact hn
  · exfalso
    obtain ⟨i, j, hij, hj, e⟩ := up_repeat h hx (fun i hi => by
      rcases Int.lt_or_le (up ps i x) 0 with h1 | h1
      · exact absurd ⟨i, hi, h1⟩ hn
      · exact h1)
    have h0 : 0 ≤ up ps i x := by
      rcases Int.lt_or_le (up ps i x) 0 with h1 | h1
      · exact absurd ⟨i, by omega, h1⟩ hn
      · exact h1
    refine hc _ h0 (up_range h (by omega) hx i).2 ⟨h0, j - i, by omega, ?_⟩
    rw [← up_add, Nat.sub_add_cancel (by omega)]
    exact e.symm
end Go.Proofs.YthjcmodhleoocaaGreatDoor.TP
/- ZTSpec -/
namespace Go.Proofs.YthjcmodhleoocaaGreatDoor.TP

/-- Node x is y or an ancestor of y. -/
def Sub (ps : List Int) (x y : Nat) : Prop := ∃ m, up ps m (y : Int) = (x : Int)
theorem Sub.refl (ps : List Int) (x : Nat) : Sub ps x x := ⟨0, rfl⟩
theorem Sub.trans {ps : List Int} {x y z : Nat} (h : Sub ps x y) (k : Sub ps y z) : Sub ps x z := by
  obtain ⟨a, ha⟩ := h
  obtain ⟨b, hb⟩ := k
  exact ⟨a + b, by rw [up_add, hb, ha]⟩
/-- A forest: parents in range, no cycle. -/
structure Forest (ps : List Int) : Prop where
  rng : InR ps
  nc : ∀ j : Int, 0 ≤ j → j < ps.length → ¬ Cyc ps j
theorem rdi_nat (ps : List Int) (c : Nat) : rdi ps (c : Int) = ps.getD c 0 := by unfold rdi; rw [Int.toNat_natCast]
theorem mem_kd {ps : List Int} {i c : Nat} : c ∈ kd ps i ↔ c < ps.length ∧ rdi ps (c : Int) = (i : Int) := by unfold kd; rw [mem_kidsOf, rdi_nat]
theorem mem_kids {ps : List Int} {p : Int} {c : Nat} : c ∈ kidsOf ps p ↔ c < ps.length ∧ rdi ps (c : Int) = p := by rw [mem_kidsOf, rdi_nat]
theorem kidsFrom_nodup (ps : List Int) (p : Int) (j : Nat) : (kidsFrom ps p j).Nodup := by
  unfold kidsFrom
  exact List.Pairwise.filter _ (List.nodup_range')
theorem kidsOf_sorted (ps : List Int) (p : Int) : (kidsOf ps p).Pairwise (· < ·) := by
  unfold kidsOf kidsFrom
  exact List.Pairwise.filter _ (List.pairwise_lt_range' 1 (by omega))
theorem kidsOf_nodup (ps : List Int) (p : Int) : (kidsOf ps p).Nodup := kidsFrom_nodup ps p 0

theorem no_loop {ps : List Int} (hf : Forest ps) {x : Nat} (hx : x < ps.length) {m : Nat} (hm : 0 < m) : up ps m (x : Int) ≠ (x : Int) := fun e =>
  hf.nc x (by omega) (by omega) ⟨by omega, m, hm, e⟩
theorem Sub.anti {ps : List Int} (hf : Forest ps) {x y : Nat} (hx : x < ps.length) (h : Sub ps x y) (k : Sub ps y x) : x = y := by
  obtain ⟨a, ha⟩ := h
  obtain ⟨b, hb⟩ := k
  rcases Nat.eq_zero_or_pos (a + b) with h0 | h0
  · obtain rfl : a = 0 := by omega
    have : (y : Int) = (x : Int) := ha
    omega
  · exact absurd (show up ps (a + b) (x : Int) = x by rw [up_add, hb, ha]) (no_loop hf hx h0)
/-- Siblings (or roots) have no common descendant. -/
theorem sib_disj {ps : List Int} (hf : Forest ps) {p : Int} {c c' x : Nat} (hp : p < ps.length) (hc : rdi ps (c : Int) = p) (hc' : rdi ps (c' : Int) = p) (h : Sub ps c x) (h' : Sub ps c' x) : c = c' := by
  have key : ∀ (c c' : Nat) (a b : Nat), rdi ps (c : Int) = p → rdi ps (c' : Int) = p → up ps a (x : Int) = c → up ps b (x : Int) = c' → a < b → False := by
    intro c c' a b hc hc' ha hb hab
    obtain ⟨e, rfl⟩ : ∃ e, b = (e + 1) + a := ⟨b - a - 1, by omega⟩
    rw [up_add, ha, up_succ, stp_nn (by omega), hc] at hb
    rcases Int.lt_or_le p 0 with h1 | h1
    · rw [up_neg _ h1] at hb; omega
    · have h2 : up ps (e + 1) p = p := by rw [up_out, hb, stp_nn (by omega), hc']
      exact hf.nc p h1 hp ⟨h1, e + 1, by omega, h2⟩
  obtain ⟨a, ha⟩ := h
  obtain ⟨b, hb⟩ := h'
  rcases Nat.lt_trichotomy a b with h | h | h
  · exact (key c c' a b hc hc' ha hb h).elim
  · subst h; rw [ha] at hb; omega
  · exact (key c' c b a hc' hc hb ha h).elim
/-- A node's tree: itself, and its children's trees. -/
theorem sub_kids {ps : List Int} (hf : Forest ps) {i x : Nat} (hx : x < ps.length) : Sub ps i x ↔ x = i ∨ ∃ c, c ∈ kd ps i ∧ Sub ps c x := by
  constructor
  · rintro ⟨m, hm⟩
    cases m with
    | zero => left; have : (x : Int) = (i : Int) := hm; omega
    | succ m =>
      right
      rw [up_out] at hm
      have h0 : 0 ≤ up ps m (x : Int) := by
        rcases Int.lt_or_le (up ps m (x : Int)) 0 with h | h
        · rw [stp_neg h] at hm; omega
        · exact h
      have h1 := (up_range hf.rng (by omega) (by omega : (x : Int) < ps.length) m).2
      rw [stp_nn h0] at hm
      exact ⟨(up ps m (x : Int)).toNat, mem_kd.2 ⟨by omega, by rw [Int.toNat_of_nonneg h0]; exact hm⟩, m, (Int.toNat_of_nonneg h0).symm⟩
  · rintro (rfl | ⟨c, hc, m, hm⟩)
    · exact Sub.refl _ _
    · exact ⟨m + 1, by rw [up_out, hm, stp_nn (by omega)]; exact (mem_kd.1 hc).2⟩
theorem kid_not_sub {ps : List Int} (hf : Forest ps) {i c : Nat} (hi : i < ps.length) (hc : c ∈ kd ps i) : ¬ Sub ps c i := by
  rintro ⟨m, hm⟩
  refine no_loop hf hi (m := m + 1) (by omega) ?_
  rw [up_out, hm, stp_nn (by omega)]
  exact (mem_kd.1 hc).2

/-- Preorder: every parent stands on the way up from the node before. -/
def PreO (ps : List Int) : Prop := ∀ i : Nat, i < ps.length → ∃ m, up ps m ((i : Int) - 1) = rdi ps (i : Int)
theorem sub_in {ps : List Int} (hP : PreO ps) {c k : Nat} (hk : c < k) : ∀ d y : Nat, y = k + d → y < ps.length → Sub ps c y → Sub ps c k := by
  intro d
  induction d with
  | zero => rintro y rfl _ h; exact h
  | succ d ih =>
    intro y hy hl h
    obtain ⟨a, ha⟩ := h
    cases a with
    | zero => have e : (y : Int) = (c : Int) := ha; omega
    | succ a =>
      obtain ⟨m, hm⟩ := hP y hl
      rw [up_succ, stp_nn (by omega), ← hm, ← up_add] at ha
      exact ih (y - 1) (by omega) (by omega) ⟨_, by rw [show (((y - 1 : Nat) : Int)) = (y : Int) - 1 by omega]; exact ha⟩
theorem sib_lt {ps : List Int} (hf : Forest ps) (hP : PreO ps) {p : Int} {c c' x y : Nat} (hc : rdi ps (c : Int) = p) (hc' : rdi ps (c' : Int) = p) (hlt : c < c') (hcl : c < ps.length) (hy : y < ps.length) (h : Sub ps c y) (hcx : c' ≤ x) : y < x := by
  rcases Nat.lt_or_ge y x with h0 | h0
  · exact h0
  · exfalso
    obtain ⟨a, ha⟩ := sub_in hP hlt (y - c') y (by omega) hy h
    cases a with
    | zero => have e : (c' : Int) = (c : Int) := ha; omega
    | succ a =>
      rw [up_succ, stp_nn (by omega), hc'] at ha
      refine no_loop hf hcl (m := a + 1) (by omega) ?_
      rw [up_succ, stp_nn (by omega), hc]
      exact ha
theorem up_le {ps : List Int} (hd : ∀ i : Nat, i < ps.length → -1 ≤ rdi ps (i : Int) ∧ rdi ps (i : Int) < i) (m : Nat) : ∀ (x : Int), x < ps.length → up ps m x ≤ x := by
  induction m with
  | zero => intro x _; exact Int.le_refl _
  | succ m ih =>
    intro x hx
    rw [up_succ]
    rcases Int.lt_or_le x 0 with h | h
    · rw [stp_neg h]; exact ih x hx
    · rw [stp_nn h]
      obtain ⟨k, rfl⟩ := Int.eq_ofNat_of_zero_le h
      have h1 := hd k (by omega)
      have := ih (rdi ps (k : Int)) (by omega)
      omega
theorem sub_le {ps : List Int} (hd : ∀ i : Nat, i < ps.length → -1 ≤ rdi ps (i : Int) ∧ rdi ps (i : Int) < i) {c x : Nat} (hx : x < ps.length) (h : Sub ps c x) : c ≤ x := by
  obtain ⟨m, hm⟩ := h
  have := up_le hd m (x : Int) (by omega)
  omega
/-- Parents stand before their children. -/
def Dn (ps : List Int) : Prop := ∀ i : Nat, i < ps.length → -1 ≤ rdi ps (i : Int) ∧ rdi ps (i : Int) < i
/-- How two different nodes' labels stand to each other. -/
def Ord (ps : List Int) (L : List Lab) (x y : Nat) : Prop := ∃ lx ly, L[x]? = some lx ∧ L[y]? = some ly ∧
  ((Sub ps x y ∧ lx.pre < ly.pre ∧ ly.post < lx.post) ∨ (Sub ps y x ∧ ly.pre < lx.pre ∧ lx.post < ly.post) ∨
    (¬ Sub ps x y ∧ ¬ Sub ps y x ∧ ((lx.pre < ly.pre ∧ lx.post < ly.post) ∨ (ly.pre < lx.pre ∧ ly.post < lx.post))))
theorem Ord.symm {ps : List Int} {L : List Lab} {x y : Nat} (h : Ord ps L x y) : Ord ps L y x := by
  obtain ⟨lx, ly, h1, h2, h3⟩ := h
  refine ⟨ly, lx, h2, h1, ?_⟩
  rcases h3 with h | h | ⟨a, b, c⟩
  · exact .inr (.inl h)
  · exact .inl h
  · exact .inr (.inr ⟨b, a, c.symm⟩)

/-- What has been numbered: the nodes of T, by numbers from s on. -/
structure Res (ps : List Int) (T : Nat → Prop) (dp : Nat → Nat → Prop) (s t : NS) : Prop where
  len : t.L.length = s.L.length
  up : Up s t
  out : ∀ x, ¬ T x → t.L[x]? = s.L[x]?
  ins : ∀ x, x < ps.length → T x → ∃ l, t.L[x]? = some l ∧ s.pre ≤ l.pre ∧ l.pre < t.pre ∧ s.post ≤ l.post ∧ l.post < t.post ∧ dp x l.dep
  ord : ∀ x y, x < ps.length → y < ps.length → T x → T y → x ≠ y → Ord ps t.L x y
  onto : ∀ v, s.pre ≤ v → v < t.pre → ∃ x, x < ps.length ∧ T x ∧ ∃ l, t.L[x]? = some l ∧ l.pre = v
  mono : PreO ps → Dn ps → ∀ x y, x < ps.length → y < ps.length → T x → T y → x < y → ∃ lx ly, t.L[x]? = some lx ∧ t.L[y]? = some ly ∧ lx.pre < ly.pre

/-- Depths: d levels above the trees of cs. -/
def DpL (ps : List Int) (cs : List Nat) (d : Nat) (x : Nat) (e : Nat) : Prop := ∃ c, c ∈ cs ∧ ∃ m, up ps m (x : Int) = (c : Int) ∧ e = d + m
def TL (ps : List Int) (cs : List Nat) (x : Nat) : Prop := ∃ c, c ∈ cs ∧ Sub ps c x

theorem res_nil (ps : List Int) (d : Nat) (s : NS) : Res ps (TL ps []) (DpL ps [] d) s s :=
  ⟨rfl, Up.refl s, fun _ _ => rfl, fun x _ ⟨c, hc, _⟩ => (by cases hc), fun x y _ _ ⟨c, hc, _⟩ => (by cases hc), fun v h1 h2 => by omega, fun _ _ x y _ _ ⟨c, hc, _⟩ => (by cases hc)⟩

theorem res_cons {ps : List Int} (hf : Forest ps) {p : Int} (hp : p < ps.length) {c : Nat} {cs : List Nat} {d : Nat} {s m t : NS} (hc : rdi ps (c : Int) = p) (hcs : ∀ c' ∈ cs, rdi ps (c' : Int) = p) (hnd : c ∉ cs) (hcl : c < ps.length) (hlt : ∀ c' ∈ cs, c < c')
    (h1 : Res ps (TL ps [c]) (DpL ps [c] d) s m) (h2 : Res ps (TL ps cs) (DpL ps cs d) m t) : Res ps (TL ps (c :: cs)) (DpL ps (c :: cs) d) s t := by
  have hdis : ∀ x, Sub ps c x → ¬ TL ps cs x := by
    rintro x hx ⟨c', hc', hx'⟩
    have := sib_disj hf hp hc (hcs c' hc') hx hx'
    subst this
    exact hnd hc'
  have hone : ∀ x, TL ps [c] x ↔ Sub ps c x := fun x => ⟨fun ⟨c', h, h'⟩ => by rw [List.mem_singleton.1 h] at h'; exact h', fun h => ⟨c, List.mem_singleton.2 rfl, h⟩⟩
  have hsplit : ∀ x, TL ps (c :: cs) x ↔ Sub ps c x ∨ TL ps cs x := by
    intro x
    constructor
    · rintro ⟨c', h, h'⟩
      rcases List.mem_cons.1 h with rfl | h
      · exact .inl h'
      · exact .inr ⟨c', h, h'⟩
    · rintro (h | ⟨c', h, h'⟩)
      · exact ⟨c, List.mem_cons_self, h⟩
      · exact ⟨c', List.mem_cons_of_mem _ h, h'⟩
  have hkeep : ∀ x, Sub ps c x → t.L[x]? = m.L[x]? := fun x hx => h2.out x (hdis x hx)
  have u1 := h1.up; have u2 := h2.up
  refine ⟨h2.len.trans h1.len, u1.trans u2, fun x hx => ?_, fun x hx ht => ?_, fun x y hx hy hTx hTy hne => ?_, fun v hv hv' => ?_, fun hP hD x y hx hy hTx hTy hxy => ?_⟩
  · rw [hsplit] at hx
    rw [h2.out x (fun h => hx (.inr h)), h1.out x (fun h => hx (.inl ((hone x).1 h)))]
  · rw [hsplit] at ht
    rcases ht with h | h
    · obtain ⟨l, a, b, c', e, f, c2, hc2, k, hk, hkd⟩ := h1.ins x hx ((hone x).2 h)
      refine ⟨l, (hkeep x h).trans a, b, by have := u2.2.1; omega, e, by have := u2.2.2.1; omega, c2, ?_, k, hk, hkd⟩
      rw [List.mem_singleton.1 hc2]; exact List.mem_cons_self
    · obtain ⟨l, a, b, c', e, f, c2, hc2, k, hk, hkd⟩ := h2.ins x hx h
      exact ⟨l, a, by have := u1.2.1; omega, c', by have := u1.2.2.1; omega, f, c2, List.mem_cons_of_mem _ hc2, k, hk, hkd⟩
  · rw [hsplit] at hTx hTy
    have mixed : ∀ x y, x < ps.length → y < ps.length → Sub ps c x → TL ps cs y → Ord ps t.L x y := by
      intro x y hx hy h h'
      obtain ⟨lx, a, b, c', e, f, _⟩ := h1.ins x hx ((hone x).2 h)
      obtain ⟨ly, a', b', c'', e', f', _⟩ := h2.ins y hy h'
      refine ⟨lx, ly, (hkeep x h).trans a, a', .inr (.inr ⟨fun hs => hdis y (h.trans hs) h', fun hs => ?_, .inl ⟨by omega, by omega⟩⟩)⟩
      obtain ⟨c2, hc2, hy2⟩ := h'
      exact hdis x h ⟨c2, hc2, hy2.trans hs⟩
    rcases hTx with h | h <;> rcases hTy with h' | h'
    · obtain ⟨lx, ly, a, b, e⟩ := h1.ord x y hx hy ((hone x).2 h) ((hone y).2 h') hne
      exact ⟨lx, ly, (hkeep x h).trans a, (hkeep y h').trans b, e⟩
    · exact mixed x y hx hy h h'
    · exact (mixed y x hy hx h' h).symm
    · exact h2.ord x y hx hy h h' hne
  · rcases Nat.lt_or_ge v m.pre with h | h
    · obtain ⟨x, a, b, l, e, f⟩ := h1.onto v hv h
      exact ⟨x, a, (hsplit x).2 (.inl ((hone x).1 b)), l, (hkeep x ((hone x).1 b)).trans e, f⟩
    · obtain ⟨x, a, b, l, e, f⟩ := h2.onto v h hv'
      exact ⟨x, a, (hsplit x).2 (.inr b), l, e, f⟩
  · rw [hsplit] at hTx hTy
    rcases hTx with h | h <;> rcases hTy with h' | h'
    · obtain ⟨lx, ly, a, b, e⟩ := h1.mono hP hD x y hx hy ((hone x).2 h) ((hone y).2 h') hxy
      exact ⟨lx, ly, (hkeep x h).trans a, (hkeep y h').trans b, e⟩
    · obtain ⟨lx, a, b, c', e, f, _⟩ := h1.ins x hx ((hone x).2 h)
      obtain ⟨ly, a', b', c'', e', f', _⟩ := h2.ins y hy h'
      exact ⟨lx, ly, (hkeep x h).trans a, a', by omega⟩
    · obtain ⟨c', hc', hx'⟩ := h
      have := sib_lt hf hP hc (hcs c' hc') (hlt c' hc') hcl hy h' (sub_le hD hx hx')
      omega
    · exact h2.mono hP hD x y hx hy h h' hxy

theorem res_node {ps : List Int} (hf : Forest ps) {i d : Nat} (hi : i < ps.length) {s m : NS} (hl : s.L.length = ps.length) (h : Res ps (TL ps (kd ps i)) (DpL ps (kd ps i) (d + 1)) (enter i d s) m) :
    Res ps (TL ps [i]) (DpL ps [i] d) s (leave i m) := by
  have hone : ∀ x, TL ps [i] x ↔ Sub ps i x := fun x => ⟨fun ⟨c', h, h'⟩ => by rw [List.mem_singleton.1 h] at h'; exact h', fun h => ⟨i, List.mem_singleton.2 rfl, h⟩⟩
  have hni : ¬ TL ps (kd ps i) i := by
    rintro ⟨c, hc, hs⟩
    exact kid_not_sub hf hi hc hs
  have hu := h.up
  have e1 : (enter i d s).pre = s.pre + 1 := rfl
  have e2 : (enter i d s).post = s.post := rfl
  have e3 : (leave i m).pre = m.pre := rfl
  have e4 : (leave i m).post = m.post + 1 := rfl
  obtain ⟨x0, hx0⟩ : ∃ x0, s.L[i]? = some x0 := ⟨_, List.getElem?_eq_getElem (by omega)⟩
  have hLi : (leave i m).L[i]? = some { pre := s.pre, post := m.post, dep := d } := by
    have h1 := h.out i hni
    have h2 : (enter i d s).L[i]? = some { x0 with pre := s.pre, dep := d } := by simp [enter, hx0]
    rw [h2] at h1
    simp [leave, h1]
  have hLo : ∀ x, x ≠ i → (leave i m).L[x]? = m.L[x]? := fun x hx => by simp [leave, Ne.symm hx]
  have hEo : ∀ x, x ≠ i → (enter i d s).L[x]? = s.L[x]? := fun x hx => by simp [enter, Ne.symm hx]
  have hcase : ∀ x, x < ps.length → Sub ps i x → x = i ∨ (x ≠ i ∧ TL ps (kd ps i) x) := by
    intro x hx hs
    by_cases e : x = i
    · exact .inl e
    · rcases (sub_kids hf hx).1 hs with e' | h'
      · exact absurd e' e
      · exact .inr ⟨e, h'⟩
  have hup : Up s (leave i m) := by
    obtain ⟨a, b, c, e⟩ := hu
    refine ⟨by rw [leave_len, a, enter_len], by rw [e3]; omega, by rw [e4]; omega, by rw [e3, e4]; omega⟩
  refine ⟨hup.1, hup, fun x hx => ?_, fun x hx ht => ?_, fun x y hx hy hTx hTy hne => ?_, fun v hv hv' => ?_, fun hP hD x y hx hy hTx hTy hxy => ?_⟩
  · rw [hone] at hx
    have hxi : x ≠ i := fun e => hx (e ▸ Sub.refl ps x)
    have hxk : ¬ TL ps (kd ps i) x := by
      rintro ⟨c, hc, k, hk⟩
      exact hx ⟨k + 1, by rw [up_out, hk, stp_nn (by omega)]; exact (mem_kd.1 hc).2⟩
    rw [hLo x hxi, h.out x hxk, hEo x hxi]
  · rcases hcase x hx ((hone x).1 ht) with rfl | ⟨hxi, hk⟩
    · have := hu.2.1; have := hu.2.2.1
      exact ⟨_, hLi, Nat.le_refl _, by rw [e3]; show s.pre < m.pre; omega, by show s.post ≤ m.post; omega, by rw [e4]; show m.post < m.post + 1; omega, x, List.mem_singleton.2 rfl, 0, rfl, rfl⟩
    · obtain ⟨l, a, b, c', e, f, c2, hc2, k, hk, hkd⟩ := h.ins x hx hk
      refine ⟨l, (hLo x hxi).trans a, by omega, by rw [e3]; exact c', by omega, by rw [e4]; omega, i, List.mem_singleton.2 rfl, k + 1, ?_, by omega⟩
      rw [up_out, hk, stp_nn (by omega)]; exact (mem_kd.1 hc2).2
  · have one : ∀ y, y < ps.length → y ≠ i → TL ps (kd ps i) y → Ord ps (leave i m).L i y := by
      intro y hy hyi hk
      obtain ⟨l, a, b, c', e, f, _⟩ := h.ins y hy hk
      obtain ⟨c, hc, k, hk2⟩ := hk
      exact ⟨_, l, hLi, (hLo y hyi).trans a, .inl ⟨⟨k + 1, by rw [up_out, hk2, stp_nn (by omega)]; exact (mem_kd.1 hc).2⟩, by show s.pre < l.pre; omega, f⟩⟩
    rcases hcase x hx ((hone x).1 hTx) with rfl | ⟨hxi, hk⟩ <;> rcases hcase y hy ((hone y).1 hTy) with rfl | ⟨hyi, hk'⟩
    · exact absurd rfl hne
    · exact one y hy hyi hk'
    · exact (one x hx hxi hk).symm
    · obtain ⟨lx, ly, a, b, e⟩ := h.ord x y hx hy hk hk' hne
      exact ⟨lx, ly, (hLo x hxi).trans a, (hLo y hyi).trans b, e⟩
  · rcases Nat.lt_or_ge s.pre v with h1 | h1
    · obtain ⟨x, a, b, l, e, f⟩ := h.onto v (by omega) (by rw [e3] at hv'; exact hv')
      have hxi : x ≠ i := fun e' => hni (e' ▸ b)
      obtain ⟨c, hc, k, hk2⟩ := b
      exact ⟨x, a, (hone x).2 ⟨k + 1, by rw [up_out, hk2, stp_nn (by omega)]; exact (mem_kd.1 hc).2⟩, l, (hLo x hxi).trans e, f⟩
    · exact ⟨i, hi, (hone i).2 (Sub.refl _ _), _, hLi, by show s.pre = v; omega⟩
  · rcases hcase x hx ((hone x).1 hTx) with rfl | ⟨hxi, hk⟩ <;> rcases hcase y hy ((hone y).1 hTy) with rfl | ⟨hyi, hk'⟩
    · omega
    · obtain ⟨l, a, b, _⟩ := h.ins y hy hk'
      exact ⟨_, l, hLi, (hLo y hyi).trans a, by show s.pre < l.pre; omega⟩
    · have := sub_le hD hx ((hone x).1 hTx)
      omega
    · obtain ⟨lx, ly, a, b, e⟩ := h.mono hP hD x y hx hy hk hk' hxy
      exact ⟨lx, ly, (hLo x hxi).trans a, (hLo y hyi).trans b, e⟩

/-- How deep a node lies. -/
def HasD (ps : List Int) (x : Int) (d : Nat) : Prop := 0 ≤ up ps d x ∧ up ps (d + 1) x < 0
theorem HasD.uniq {ps : List Int} {x : Int} {a b : Nat} (h : HasD ps x a) (k : HasD ps x b) : a = b := by
  rcases Nat.lt_trichotomy a b with h1 | h1 | h1
  · have := up_nn_of (show a + 1 ≤ b by omega) k.1; have := h.2; omega
  · exact h1
  · have := up_nn_of (show b + 1 ≤ a by omega) h.1; have := k.2; omega
theorem hasD_ex {ps : List Int} (hf : Forest ps) {x : Int} (hx0 : 0 ≤ x) (hx : x < ps.length) : ∃ d, d < ps.length ∧ HasD ps x d := by
  obtain ⟨m, hm, hneg⟩ := ends_of hf.rng hf.nc hx0 hx
  have key : ∀ m, up ps m x < 0 → ∃ d, d < m ∧ HasD ps x d := by
    intro m
    induction m with
    | zero => intro h; have : x < 0 := h; omega
    | succ m ih =>
      intro h
      rcases Int.lt_or_le (up ps m x) 0 with h1 | h1
      · obtain ⟨d, hd, h2⟩ := ih h1; exact ⟨d, by omega, h2⟩
      · exact ⟨m, by omega, h1, h⟩
  obtain ⟨d, hd, h2⟩ := key m hneg
  exact ⟨d, by omega, h2⟩
theorem HasD.kid {ps : List Int} {c : Nat} {i : Int} {d : Nat} (hc : rdi ps (c : Int) = i) (h : HasD ps i d) : HasD ps (c : Int) (d + 1) := by
  have e : stp ps (c : Int) = i := by rw [stp_nn (by omega)]; exact hc
  exact ⟨by rw [up_succ, e]; exact h.1, by rw [up_succ, e]; exact h.2⟩

/-- The numbering of a node's tree ends, and does what it should: enough levels are n less the node's depth. -/
theorem vis_res {ps : List Int} (hf : Forest ps) (k : Nat) : ∀ (i d D : Nat) (s : NS), i < ps.length → HasD ps (i : Int) D → ps.length ≤ D + k → s.L.length = ps.length →
    ∃ t, vis (kd ps) k i d s = some t ∧ Res ps (TL ps [i]) (DpL ps [i] d) s t := by
  induction k with
  | zero =>
    intro i d D s hi hD hk
    obtain ⟨d', hd', h'⟩ := hasD_ex hf (x := (i : Int)) (by omega) (by omega)
    have := hD.uniq h'
    omega
  | succ k ih =>
    intro i d D s hi hD hk hl
    have fold : ∀ (cs : List Nat), cs.Pairwise (· < ·) → (∀ c ∈ cs, c ∈ kd ps i) → ∀ (s : NS), s.L.length = ps.length → ∃ t, cs.foldlM (fun s c => vis (kd ps) k c (d + 1) s) s = some t ∧ Res ps (TL ps cs) (DpL ps cs (d + 1)) s t := by
      intro cs
      induction cs with
      | nil => intro _ _ s _; exact ⟨s, rfl, res_nil ps (d + 1) s⟩
      | cons c cs ihc =>
        intro hnd hall s hl
        obtain ⟨hn0, hn2⟩ := List.pairwise_cons.1 hnd
        have hn1 : c ∉ cs := fun h => Nat.lt_irrefl _ (hn0 c h)
        have hck := mem_kd.1 (hall c List.mem_cons_self)
        obtain ⟨m, hm, hr⟩ := ih c (d + 1) (D + 1) s hck.1 (hD.kid hck.2) (by omega) hl
        obtain ⟨t, ht, hr2⟩ := ihc hn2 (fun c' h' => hall c' (List.mem_cons_of_mem _ h')) m (hr.len.trans hl)
        refine ⟨t, ?_, res_cons hf (p := (i : Int)) (by omega) hck.2 (fun c' h' => (mem_kd.1 (hall c' (List.mem_cons_of_mem _ h'))).2) hn1 hck.1 hn0 hr hr2⟩
        rw [List.foldlM_cons, hm]
        exact ht
    obtain ⟨m, hm, hr⟩ := fold (kd ps i) (kidsOf_sorted _ _) (fun c h => h) (enter i d s) (by rw [enter_len]; exact hl)
    refine ⟨leave i m, ?_, res_node hf hi hl hr⟩
    rw [vis, if_pos (by omega), hm]
    rfl
theorem visL_res {ps : List Int} (hf : Forest ps) (k : Nat) (hk : ps.length ≤ k) : ∀ (cs : List Nat), cs.Pairwise (· < ·) → (∀ c ∈ cs, c ∈ kidsOf ps (-1)) → ∀ (s : NS), s.L.length = ps.length →
    ∃ t, visL ps k cs 0 s = some t ∧ Res ps (TL ps cs) (DpL ps cs 0) s t := by
  intro cs
  induction cs with
  | nil => intro _ _ s _; exact ⟨s, rfl, res_nil ps 0 s⟩
  | cons c cs ihc =>
    intro hnd hall s hl
    obtain ⟨hn0, hn2⟩ := List.pairwise_cons.1 hnd
    have hn1 : c ∉ cs := fun h => Nat.lt_irrefl _ (hn0 c h)
    have hck := mem_kids.1 (hall c List.mem_cons_self)
    have hD : HasD ps (c : Int) 0 := ⟨by show (0 : Int) ≤ (c : Int); omega, by
      show stp ps (c : Int) < 0
      rw [stp_nn (by omega), hck.2]; omega⟩
    obtain ⟨m, hm, hr⟩ := vis_res hf k c 0 0 s hck.1 hD (by omega) hl
    obtain ⟨t, ht, hr2⟩ := ihc hn2 (fun c' h' => hall c' (List.mem_cons_of_mem _ h')) m (hr.len.trans hl)
    refine ⟨t, ?_, res_cons hf (p := -1) (by omega) hck.2 (fun c' h' => (mem_kids.1 (hall c' (List.mem_cons_of_mem _ h'))).2) hn1 hck.1 hn0 hr hr2⟩
    rw [visL_cons, hm]
    exact ht

/-- The labels of a forest. -/
structure LabOf (ps : List Int) (L : List Lab) : Prop where
  len : L.length = ps.length
  dep : ∀ (x : Nat) (l : Lab), L[x]? = some l → HasD ps (x : Int) l.dep
  rng : ∀ (x : Nat) (l : Lab), L[x]? = some l → l.pre < ps.length ∧ l.post < ps.length
  ord : ∀ x y, x < ps.length → y < ps.length → x ≠ y → Ord ps L x y
  onto : ∀ v, v < ps.length → ∃ (x : Nat) (l : Lab), L[x]? = some l ∧ l.pre = v
  mono : PreO ps → Dn ps → ∀ x y, x < ps.length → y < ps.length → x < y → ∃ lx ly, L[x]? = some lx ∧ L[y]? = some ly ∧ lx.pre < ly.pre
theorem root_of {ps : List Int} (hf : Forest ps) {x : Nat} (hx : x < ps.length) : TL ps (kidsOf ps (-1)) x := by
  obtain ⟨d, hd, h1, h2⟩ := hasD_ex hf (x := (x : Int)) (by omega) (by omega)
  have hr := up_range hf.rng (by omega) (by omega : (x : Int) < ps.length) d
  have hr2 := up_range hf.rng (by omega) (by omega : (x : Int) < ps.length) (d + 1)
  rw [up_out, stp_nn h1] at h2 hr2
  exact ⟨(up ps d (x : Int)).toNat, mem_kids.2 ⟨by omega, by rw [Int.toNat_of_nonneg h1]; omega⟩, d, (Int.toNat_of_nonneg h1).symm⟩
/-- The numbering of a forest ends with its labels. -/
theorem num_res {ps : List Int} (hf : Forest ps) (k : Nat) (hk : ps.length ≤ k) : ∃ t, visL ps k (kidsOf ps (-1)) 0 ⟨List.replicate ps.length ⟨0, 0, 0⟩, 0, 0⟩ = some t ∧ t.pre = ps.length ∧ t.post = ps.length ∧ LabOf ps t.L := by
  obtain ⟨t, ht, hr⟩ := visL_res hf k hk (kidsOf ps (-1)) (kidsOf_sorted _ _) (fun c h => h) ⟨List.replicate ps.length ⟨0, 0, 0⟩, 0, 0⟩ (by rw [List.length_replicate])
  have hlen : t.L.length = ps.length := by rw [hr.len, List.length_replicate]
  have hin : ∀ x, x < ps.length → ∃ l, t.L[x]? = some l ∧ l.pre < t.pre ∧ l.post < t.post ∧ DpL ps (kidsOf ps (-1)) 0 x l.dep := fun x hx => by
    obtain ⟨l, a, _, b, _, c, e⟩ := hr.ins x hx (root_of hf hx)
    exact ⟨l, a, b, c, e⟩
  have hup := hr.up
  have hpp : t.pre = t.post := by have := hup.2.2.2; simp only at this; omega
  have h1 : ps.length ≤ t.pre := by
    refine inj_le ps.length t.pre (fun x => ((t.L[x]?).getD ⟨0, 0, 0⟩).pre) (fun x hx => ?_) (fun x y hx hy e => ?_)
    · obtain ⟨l, a, b, _⟩ := hin x hx
      show ((t.L[x]?).getD ⟨0, 0, 0⟩).pre < t.pre
      rw [a]; exact b
    · by_cases hxy : x = y
      · exact hxy
      · exfalso
        obtain ⟨lx, ly, a, b, c⟩ := hr.ord x y hx hy (root_of hf hx) (root_of hf hy) hxy
        have e' : ((t.L[x]?).getD ⟨0, 0, 0⟩).pre = ((t.L[y]?).getD ⟨0, 0, 0⟩).pre := e
        rw [a, b] at e'
        have e2 : lx.pre = ly.pre := e'
        omega
  have h2 : t.pre ≤ ps.length := by
    have hex : ∀ v, ∃ x, v < t.pre → x < ps.length ∧ ∃ l, t.L[x]? = some l ∧ l.pre = v := fun v => by
      by_cases hv : v < t.pre
      · obtain ⟨x, a, _, l, b, c⟩ := hr.onto v (Nat.zero_le _) hv
        exact ⟨x, fun _ => ⟨a, l, b, c⟩⟩
      · exact ⟨0, fun h => absurd h hv⟩
    refine inj_le t.pre ps.length (fun v => Classical.choose (hex v)) (fun v hv => (Classical.choose_spec (hex v) hv).1) (fun v w hv hw e => ?_)
    obtain ⟨_, l, a, b⟩ := Classical.choose_spec (hex v) hv
    obtain ⟨_, l', a', b'⟩ := Classical.choose_spec (hex w) hw
    have e' : Classical.choose (hex v) = Classical.choose (hex w) := e
    rw [e'] at a
    rw [a] at a'
    have : l = l' := Option.some.inj a'
    rw [← b, ← b', this]
  have h3 : t.pre = ps.length := by omega
  refine ⟨t, ht, h3, by omega, hlen, fun x l hl => ?_, fun x l hl => ?_, fun x y hx hy hne => hr.ord x y hx hy (root_of hf hx) (root_of hf hy) hne, fun v hv => ?_, fun hP hD x y hx hy hxy => hr.mono hP hD x y hx hy (root_of hf hx) (root_of hf hy) hxy⟩
  · have hx : x < ps.length := by have := (List.getElem?_eq_some_iff.1 hl).1; omega
    obtain ⟨l', a, _, _, c, hc, m, hm, e⟩ := hin x hx
    rw [hl] at a
    obtain rfl := Option.some.inj a
    have hck := mem_kids.1 hc
    rw [Nat.zero_add] at e
    rw [e]
    exact ⟨by rw [hm]; omega, by rw [up_out, hm, stp_nn (by omega), hck.2]; omega⟩
  · have hx : x < ps.length := by have := (List.getElem?_eq_some_iff.1 hl).1; omega
    obtain ⟨l', a, b, c, _⟩ := hin x hx
    rw [hl] at a
    obtain rfl := Option.some.inj a
    omega
  · obtain ⟨x, _, _, l, b, c⟩ := hr.onto v (Nat.zero_le _) (by omega)
    exact ⟨x, l, b, c⟩
end Go.Proofs.YthjcmodhleoocaaGreatDoor.TP
/- ZMem -/
namespace Go.Proofs.YthjcmodhleoocaaGreatDoor.Z
open Go Go.RowKit
theorem blk_new (w : World) (o : Obj) : (w.alloc o).heap[w.heap.size]? = some o := heap_alloc_new w o
theorem blk_lt {w : World} {g : Nat} {o : Obj} (h : w.heap[g]? = some o) : g < w.heap.size := (Array.getElem?_eq_some_iff.1 h).1
theorem blk_set {w : World} {g : Nat} {t : TypeId} {cs : Array Value} (h : w.heap[g]? = some (.cells cs t (0, 0))) (i : Nat) (u : Value) : (w.setCell ⟨g, i, none⟩ u).heap[g]? = some (.cells (cs.setIfInBounds i u) t (0, 0)) := by
  simp [World.setCell, Array.getElem?_modify, h]
theorem blk_put {w : World} {g : Nat} {t : TypeId} {cs cs' : Array Value} (h : w.heap[g]? = some (.cells cs t (0, 0))) (i : Nat) (u : Value) (e : cs.setIfInBounds i u = cs') : (w.setCell ⟨g, i, none⟩ u).heap[g]? = some (.cells cs' t (0, 0)) := e ▸ blk_set h i u
theorem blk_cell {w : World} {g : Nat} {t : TypeId} {cs : Array Value} (h : w.heap[g]? = some (.cells cs t (0, 0))) (i : Nat) : w.cell? ⟨g, i, none⟩ = cs[i]? := cell_of_row w g i cs t (0, 0) h
theorem blk_frozen {w : World} {g : Nat} {t : TypeId} {cs : Array Value} (h : w.heap[g]? = some (.cells cs t (0, 0))) (i : Nat) : w.frozen? ⟨g, i, none⟩ = false := by simp [World.frozen?, h]
theorem blk_drewN {w : World} {g : Nat} {o : Obj} (h : w.heap[g]? = some o) (n : Nat) : (w.drewN n).heap[g]? = some o := h
theorem blk_drew {w : World} {g : Nat} {o : Obj} (h : w.heap[g]? = some o) : w.drew.heap[g]? = some o := h
theorem blk_alloc {w : World} {g : Nat} {o : Obj} (h : w.heap[g]? = some o) (o' : Obj) : (w.alloc o').heap[g]? = some o := (Below.heap_alloc w o' g (blk_lt h)).trans h
theorem blk_far {w : World} {g : Nat} {t : TypeId} {cs : Array Value} (h : w.heap[g]? = some (.cells cs t (0, 0))) {p : Addr} (hp : g ≠ p.block) (u : Value) : (w.setCell p u).heap[g]? = some (.cells cs t (0, 0)) := (Below.heap_setCell w p u g hp).trans h
theorem blk_below {w w1 : World} {g : Nat} {o : Obj} (h : w.heap[g]? = some o) (hb : Below w.heap.size w w1) : w1.heap[g]? = some o := (hb.block g (blk_lt h)).trans h
theorem bdrewN {B : Nat} {a w : World} (h : Below B a w) (n : Nat) : Below B a (w.drewN n) := ⟨h.os, h.tape, h.output, h.size, h.block⟩
/-- A slice type T, its elements' type e: so many cells and bytes each. -/
structure El (T e size bytes : Nat) : Prop where
  u : Tryz.prog.underlying T = some (.slice e)
  i : ∃ i z, Tryz.prog.info? e = some i ∧ i.zero = some z ∧ i.size = size ∧ i.bytes = bytes ∧ z.cells.size = size
  pos : 0 < size
  small : bytes ≤ 1000
theorem El.mk' {T e size bytes : Nat} {z : Value} (u : Tryz.prog.underlying T = some (.slice e)) (h : (Tryz.prog.info? e).map (fun i => (i.zero, i.size, i.bytes)) = some (some z, size, bytes)) (hz : z.cells.size = size) (pos : 0 < size) (small : bytes ≤ 1000) : El T e size bytes := by
  obtain ⟨i, h1, h2, h3, h4⟩ := info_parts h
  exact ⟨u, ⟨i, z, h1, h2, h3, h4, hz⟩, pos, small⟩
theorem app {T e size bytes : Nat} (E : El T e size bytes) {w : World} {ops : Array Oper} {rest : List Oper} {o : Oper} {a : Act} {Q : Exit → Act → World → Prop} (hgd : o.guard = none) (s x : Operand)
    (ho : o.op = .call { callee := .builtin .append, args := #[s, x], argTypes := #[T, T] }) (base : Nat) {v : Value} {n : Nat} {xs : List Value} (hs : a.eval s = v) (hown : w.ownsRow base e size v n xs)
    (ad : Addr) (m c : Nat) (news : List Value) (hx : a.eval x = .slice (some ad) m c) (hl : news.length = m * size) (hnews : ∀ j u, news[j]? = some u → w.cell? (ad.add j) = some u) (h1 : ∀ u ∈ news, u.oneCell' = true)
    (hn : n + m ≤ 100000) (hbase : base ≤ w.heap.size)
    (h : ∀ v' w', w'.ownsRow base e size v' (n + m) (xs ++ news) → w.grownBy w' v.ownBlock → wpList Tryz.prog ops Q rest (a.put o.dst v') w') : wpList Tryz.prog ops Q (o :: rest) a w := by
  obtain ⟨i, z, h2, h3, h4, h5, h6⟩ := E.i
  exact wpList_append_own w hgd s x T ho base e i z size bytes E.u h2 h3 h4 h5 h6 E.pos v n xs hs hown ad m c news hx hl hnews h1 (by unfold maxLen; omega)
    (Nat.le_trans (Nat.mul_le_mul hn E.small) (by omega)) hbase (fun v' w' h7 h8 _ => h v' w' h7 h8)
theorem cell_one (w : World) (u : Value) (t : TypeId) (j : Nat) (v : Value) (h : [u][j]? = some v) : (w.alloc (.cells #[u] t)).cell? ((⟨w.heap.size, 0, none⟩ : Addr).add j) = some v := by
  match j, h with
  | 0, h => simpa [Addr.add] using h
theorem el64 : El 64 5 1 1 := .mk' (z := .int .u8 0) Tryz.underlying64 (by kernel_rfl) rfl (by omega) (by omega)
end Go.Proofs.YthjcmodhleoocaaGreatDoor.Z
/- ZRead -/
namespace Go.Proofs.YthjcmodhleoocaaGreatDoor.Z
open Go Go.RowKit Go.ChangeShapes Go.WideShapes
set_option linter.unusedVariables false
/-- The rows of k cells each behind an address. -/
def Rows (w : World) (A : Option Addr) (k : Nat) (L : List (List Value)) : Prop := ∀ i r, L[i]? = some r → r.length = k ∧ ∃ a, A = some a ∧ ∀ j v, r[j]? = some v → w.cell? (a.add (i * k + j)) = some v
theorem Rows.below {w w' : World} {A : Option Addr} {k : Nat} {L : List (List Value)} (h : Rows w A k L) (hb : Below w.heap.size w w') : Rows w' A k L := fun i r hr => by
  obtain ⟨h1, a, h2, h3⟩ := h i r hr
  exact ⟨h1, a, h2, fun j v hv => (hb.cell (World.block_lt_of_cell? w _ (h3 j v hv))).trans (h3 j v hv)⟩
theorem rows_in {H : Type} {enc : TypeId × Value → H} {W : World} {v : Value} {x : DataW H × List MemPlace} {fuel t e k : Nat} {base : Nat} {spare : Nat → Bool} {held : Bool} (ht : Tryz.prog.underlying t = some (.slice e)) (hk : Tryz.prog.cellsOf e = k)
    (h : DataW.trod enc Tryz.prog W base spare held fuel t [v] = some x) : ∃ A c, ∃ L : List (List Value), v = .slice A L.length c ∧ L.length ≤ c ∧ c ≤ maxLen ∧ Rows W A k L ∧ ∀ r ∈ L, ∃ n y, DataW.trod enc Tryz.prog W base spare held n e r = some y := by
  rcases DataW.trod_slice ht h with ⟨hcs, hx⟩ | ⟨a, len, cap, elems, rest, n, _, hcs, _, hb, hl, hm, hlen, hel, _⟩
  · obtain rfl : v = .slice none 0 0 := by simpa using hcs
    exact ⟨none, 0, [], rfl, Nat.le_refl _, by decide, fun i r hr => by simp at hr, fun r hr => by simp at hr⟩
  · obtain rfl : v = .slice (some a) len cap := by simpa using hcs
    have key : ∀ i, i < len → ∃ r y, W.cells? base (a.add (i * k)) k = some r ∧ DataW.trod enc Tryz.prog W base spare held n e r = some y := fun i hi => by
      have := hel i hi
      rw [hk, List.getElem?_eq_getElem (by omega), Option.bind_eq_some_iff] at this
      obtain ⟨r, h1, h2⟩ := this
      exact ⟨r, _, h1, h2⟩
    let R : Nat → List Value := fun i => (W.cells? base (a.add (i * k)) k).getD []
    refine ⟨some a, cap, (List.range len).map R, by simp, by simpa using hl, hm, ?_, ?_⟩
    · intro i r hr
      simp only [List.getElem?_map, Option.map_eq_some_iff] at hr
      obtain ⟨i', h1, rfl⟩ := hr
      obtain ⟨h2, h3⟩ := List.getElem?_eq_some_iff.1 h1
      simp at h2 h3
      subst h3
      obtain ⟨r, y, h4, h5⟩ := key i h2
      have : R i = r := by simp [R, h4]
      rw [this]
      obtain ⟨_, h6, h7⟩ := World.cells?_some h4
      refine ⟨h6, a, rfl, fun j v hv => ?_⟩
      have hj : j < k := by rw [← h6]; exact (List.getElem?_eq_some_iff.1 hv).1
      have := h7 j hj
      rw [hv] at this
      rw [← this]
      have e : (a.add (i * k)).add j = a.add (i * k + j) := by
        unfold Addr.add
        split <;> split <;> split <;> simp_all <;> omega
      rw [e]
    · intro r hr
      simp only [List.mem_map, List.mem_range] at hr
      obtain ⟨i, hi, rfl⟩ := hr
      obtain ⟨r, y, h4, h5⟩ := key i hi
      exact ⟨n, y, by simp [R, h4, h5]⟩
end Go.Proofs.YthjcmodhleoocaaGreatDoor.Z
/- ZCorp -/
namespace Go.Proofs.YthjcmodhleoocaaGreatDoor.Z
open Go Go.RowKit Go.ChangeShapes Go.WideShapes
set_option linter.unusedVariables false
/-- Whole numbers of Go's int. -/
def I64 (n : Int) : Prop := -9223372036854775808 ≤ n ∧ n ≤ 9223372036854775807
/-- The row r lies at p. -/
def At (w : World) (p : Addr) (r : List Value) : Prop := ∀ j u, r[j]? = some u → w.cell? (if j = 0 then p else ⟨p.block, p.off + j, none⟩) = some u
theorem At.below {w w' : World} {p : Addr} {r : List Value} (h : At w p r) (hb : Below w.heap.size w w') : At w' p r := fun j u hu => (hb.cell (World.block_lt_of_cell? w _ (h j u hu))).trans (h j u hu)
theorem At.c0 {w : World} {p : Addr} {r : List Value} {u : Value} (h : At w p (u :: r)) : w.cell? p = some u := h 0 u rfl
theorem At.c1 {w : World} {p : Addr} {r : List Value} {a u : Value} (h : At w p (a :: u :: r)) : w.cell? ⟨p.block, p.off + 1, none⟩ = some u := h 1 u rfl
theorem At.c2 {w : World} {p : Addr} {r : List Value} {a b u : Value} (h : At w p (a :: b :: u :: r)) : w.cell? ⟨p.block, p.off + 2, none⟩ = some u := h 2 u rfl
theorem At.c3 {w : World} {p : Addr} {r : List Value} {a b c u : Value} (h : At w p (a :: b :: c :: u :: r)) : w.cell? ⟨p.block, p.off + 3, none⟩ = some u := h 3 u rfl
/-- A slice value whose elements are l: the element x lies as a row that P tells. -/
def Sq {α : Type} (w : World) (v : Value) (k : Nat) (P : α → List Value → Prop) (l : List α) : Prop :=
  ∃ A c, v = .slice A l.length c ∧ l.length ≤ c ∧ c ≤ maxLen ∧ ∀ i x, l[i]? = some x → ∃ a r, A = some a ∧ P x r ∧ At w (a.add (i * k)) r
theorem Sq.mono {α : Type} {w w' : World} {v : Value} {k : Nat} {P P' : α → List Value → Prop} {l : List α} (h : Sq w v k P l) (hb : Below w.heap.size w w') (hP : ∀ x r, P x r → P' x r) : Sq w' v k P' l := by
  obtain ⟨A, c, h1, h2, h3, h4⟩ := h
  refine ⟨A, c, h1, h2, h3, fun i x hx => ?_⟩
  obtain ⟨a, r, h5, h6, h7⟩ := h4 i x hx
  exact ⟨a, r, h5, hP _ _ h6, h7.below hb⟩
/-- A list of strings. -/
def Ss (w : World) (v : Value) (l : List ByteArray) : Prop := Sq w v 1 (fun s r => r = [.string s] ∧ s.size ≤ maxLen) l
/-- Keys: name and value. -/
def Ks (w : World) (v : Value) (l : List (ByteArray × ByteArray)) : Prop := Sq w v 2 (fun s r => r = [.string s.1, .string s.2] ∧ s.1.size ≤ maxLen ∧ s.2.size ≤ maxLen) l
/-- Numbers. -/
def Is (w : World) (v : Value) (l : List Int) : Prop := Sq w v 1 (fun z r => r = [.int .i64 z] ∧ I64 z) l
/-- Attributes. -/
def Ats (w : World) (v : Value) (l : List (ByteArray × Bool)) : Prop := Sq w v 2 (fun s r => r = [.string s.1, .bool s.2] ∧ s.1.size ≤ maxLen) l
/-- Tokens. -/
def Tks (w : World) (v : Value) (l : List (List ByteArray)) : Prop := Sq w v 1 (fun x r => ∃ u, r = [u] ∧ Ss w u x) l
/-- A text or a region. -/
structure Tx where
  nm : ByteArray
  b : Int
  e : Int
  ks : List (ByteArray × ByteArray)
def TxR (w : World) (x : Tx) (r : List Value) : Prop := ∃ u, r = [.string x.nm, .int .i64 x.b, .int .i64 x.e, u] ∧ Ks w u x.ks ∧ x.nm.size ≤ maxLen ∧ I64 x.b ∧ I64 x.e
/-- Texts, or regions. -/
def Txs (w : World) (v : Value) (l : List Tx) : Prop := Sq w v 4 (TxR w) l
/-- A node. -/
structure Nd where
  nm : ByteArray
  b : Int
  e : Int
  p : Int
/-- Nodes. -/
def Nds (w : World) (v : Value) (l : List Nd) : Prop := Sq w v 4 (fun x r => r = [.string x.nm, .int .i64 x.b, .int .i64 x.e, .int .i64 x.p] ∧ x.nm.size ≤ maxLen ∧ I64 x.b ∧ I64 x.e ∧ I64 x.p) l
theorem Ss.below {w w' : World} {v : Value} {l : List ByteArray} (h : Ss w v l) (hb : Below w.heap.size w w') : Ss w' v l := Sq.mono h hb fun _ _ h => h
theorem Ks.below {w w' : World} {v : Value} {l : List (ByteArray × ByteArray)} (h : Ks w v l) (hb : Below w.heap.size w w') : Ks w' v l := Sq.mono h hb fun _ _ h => h
theorem Is.below {w w' : World} {v : Value} {l : List Int} (h : Is w v l) (hb : Below w.heap.size w w') : Is w' v l := Sq.mono h hb fun _ _ h => h
theorem Ats.below {w w' : World} {v : Value} {l : List (ByteArray × Bool)} (h : Ats w v l) (hb : Below w.heap.size w w') : Ats w' v l := Sq.mono h hb fun _ _ h => h
theorem Tks.below {w w' : World} {v : Value} {l : List (List ByteArray)} (h : Tks w v l) (hb : Below w.heap.size w w') : Tks w' v l := Sq.mono h hb fun _ _ ⟨u, h1, h2⟩ => ⟨u, h1, h2.below hb⟩
theorem TxR.below {w w' : World} {x : Tx} {r : List Value} (h : TxR w x r) (hb : Below w.heap.size w w') : TxR w' x r := by
  obtain ⟨u, h1, h2, h3⟩ := h
  exact ⟨u, h1, h2.below hb, h3⟩
theorem Txs.below {w w' : World} {v : Value} {l : List Tx} (h : Txs w v l) (hb : Below w.heap.size w w') : Txs w' v l := Sq.mono h hb fun _ _ h => h.below hb
theorem Nds.below {w w' : World} {v : Value} {l : List Nd} (h : Nds w v l) (hb : Below w.heap.size w w') : Nds w' v l := Sq.mono h hb fun _ _ h => h
theorem map_ex {α : Type} {P : α → List Value → Prop} : ∀ {L : List (List Value)}, (∀ r ∈ L, ∃ s, P s r) → ∃ l : List α, l.length = L.length ∧ ∀ (i : Nat) (x : α), l[i]? = some x → ∃ r, L[i]? = some r ∧ P x r
  | [], _ => ⟨[], rfl, fun i x hx => by simp at hx⟩
  | r :: L, key => by
    obtain ⟨l, e, hl⟩ := map_ex (L := L) (fun r hr => key r (List.mem_cons_of_mem _ hr))
    obtain ⟨s, hs⟩ := key r (List.mem_cons_self ..)
    refine ⟨s :: l, by simp [e], fun i x hx => ?_⟩
    cases i with
    | zero => simp at hx; subst hx; exact ⟨r, rfl, hs⟩
    | succ i => simpa using hl i x (by simpa using hx)
section
variable {H : Type} {enc : TypeId × Value → H} {W : World} {v : Value} {x : DataW H × List MemPlace} {fuel t e k base : Nat} {spare : Nat → Bool} {held : Bool}
theorem at_of_rows {w : World} {A : Option Addr} {k : Nat} {L : List (List Value)} (h : Rows w A k L) {i : Nat} {r : List Value} (hr : L[i]? = some r) (hk : 0 < k) : ∃ a, A = some a ∧ At w (a.add (i * k)) r := by
  obtain ⟨h1, a, h2, h3⟩ := h i r hr
  refine ⟨a, h2, fun j u hu => ?_⟩
  rw [← h3 j u hu]
  by_cases hj : j = 0
  · subst hj; rfl
  · rw [if_neg hj]
    congr 1
    unfold Addr.add
    split <;> split <;> simp_all <;> omega
theorem sq_in {α : Type} {P : α → List Value → Prop} (ht : Tryz.prog.underlying t = some (.slice e)) (hk : Tryz.prog.cellsOf e = k) (k0 : 0 < k)
    (h : DataW.trod enc Tryz.prog W base spare held fuel t [v] = some x) (hP : ∀ r n y, r.length = k → DataW.trod enc Tryz.prog W base spare held n e r = some y → ∃ s, P s r) : ∃ l, Sq W v k P l := by
  obtain ⟨A, c, L, rfl, h1, h2, h3, h4⟩ := rows_in ht hk h
  have key : ∀ r ∈ L, ∃ s, P s r := fun r hr => by
    obtain ⟨n, y, hy⟩ := h4 r hr
    obtain ⟨i, hi⟩ := List.getElem?_of_mem hr
    exact hP r n y (h3 i r hi).1 hy
  obtain ⟨l, e1, hl⟩ := map_ex key
  refine ⟨l, A, c, by rw [e1], by omega, h2, fun i s hs => ?_⟩
  obtain ⟨r, h5, h6⟩ := hl i s hs
  obtain ⟨a, h7, h8⟩ := at_of_rows h3 h5 k0
  exact ⟨a, r, h7, h6, h8⟩
theorem strs_in (ht : Tryz.prog.underlying t = some (.slice 9)) (h : DataW.trod enc Tryz.prog W base spare held fuel t [v] = some x) : ∃ l, Ss W v l :=
  sq_in ht (by kernel_rfl) (by omega) h fun r n y hr hy => by
    obtain ⟨s, e, _, hs⟩ := DataW.trod_string Tryz.underlying9 hy
    exact ⟨s, e, hs⟩
theorem int_in {cs : List Value} (h : DataW.trod enc Tryz.prog W base spare held fuel 3 cs = some x) : ∃ z, cs = [.int .i64 z] ∧ I64 z := by
  obtain ⟨z, e, _, hz⟩ := DataW.trod_int Tryz.underlying3 h
  refine ⟨z, e, ?_⟩
  simp [Lit.wf, IntKind.min, IntKind.max, IntKind.signed, IntKind.bits] at hz
  unfold I64
  omega
theorem ints_in (ht : Tryz.prog.underlying t = some (.slice 3)) (h : DataW.trod enc Tryz.prog W base spare held fuel t [v] = some x) : ∃ l, Is W v l :=
  sq_in ht (by kernel_rfl) (by omega) h fun r n y hr hy => int_in hy
theorem fieldOf {fs : Array Field} {n : Nat} {cs : List Value} {xs : List (DataW H × List MemPlace)} (hl : xs.length = fs.size) (hf : ∀ (i : Nat) (f : Field), fs[i]? = some f → DataW.trod enc Tryz.prog W base spare held n f.type ((cs.drop f.offset).take (Tryz.prog.cellsOf f.type)) = xs[i]?) (i ty off : Nat) (hk : Tryz.prog.cellsOf ty = 1) (h : ∃ f, fs[i]? = some f ∧ f.type = ty ∧ f.offset = off) :
    ∃ y, DataW.trod enc Tryz.prog W base spare held n ty ((cs.drop off).take 1) = some y := by
  obtain ⟨f, h, rfl, rfl⟩ := h
  have := hf i f h
  have hi : i < xs.length := by rw [hl]; exact (Array.getElem?_eq_some_iff.1 h).1
  rw [hk] at this
  exact ⟨_, this.trans (List.getElem?_eq_getElem hi)⟩
theorem cells9 : Tryz.prog.cellsOf 9 = 1 := by kernel_rfl
theorem cells3 : Tryz.prog.cellsOf 3 = 1 := by kernel_rfl
theorem cells4 : Tryz.prog.cellsOf 4 = 1 := by kernel_rfl
theorem cells76 : Tryz.prog.cellsOf 76 = 1 := by kernel_rfl
theorem len2 {r : List Value} (h : r.length = 2) : ∃ a b, r = [a, b] := by
  cases r with
  | nil => simp at h
  | cons a r => cases r with
    | nil => simp at h
    | cons b r => exact ⟨a, b, by simp at h; rw [h]⟩
theorem len4 {r : List Value} (h : r.length = 4) : ∃ a b c d, r = [a, b, c, d] := by
  cases r with
  | nil => simp at h
  | cons a r => cases r with
    | nil => simp at h
    | cons b r =>
      obtain ⟨c, d, rfl⟩ := len2 (r := r) (by simp at h; omega)
      exact ⟨a, b, c, d, rfl⟩
theorem keys_in (ht : Tryz.prog.underlying t = some (.slice 105)) (h : DataW.trod enc Tryz.prog W base spare held fuel t [v] = some x) : ∃ l, Ks W v l :=
  sq_in ht (by kernel_rfl) (by omega) h fun r n y hr hy => by
    obtain ⟨xs, m, _, _, _, hn, hf⟩ := DataW.trod_struct Tryz.underlying105 hy
    obtain ⟨y0, h0⟩ := fieldOf hn hf 0 9 0 cells9 ⟨_, rfl, rfl, rfl⟩
    obtain ⟨y1, h1⟩ := fieldOf hn hf 1 9 1 cells9 ⟨_, rfl, rfl, rfl⟩
    obtain ⟨s0, e0, _, q0⟩ := DataW.trod_string Tryz.underlying9 h0
    obtain ⟨s1, e1, _, q1⟩ := DataW.trod_string Tryz.underlying9 h1
    obtain ⟨a, b, rfl⟩ : ∃ a b, r = [a, b] := len2 hr
    simp at e0 e1
    exact ⟨(s0, s1), by rw [e0, e1], q0, q1⟩
theorem ats_in (ht : Tryz.prog.underlying t = some (.slice 73)) (h : DataW.trod enc Tryz.prog W base spare held fuel t [v] = some x) : ∃ l, Ats W v l :=
  sq_in ht (by kernel_rfl) (by omega) h fun r n y hr hy => by
    obtain ⟨xs, m, _, _, _, hn, hf⟩ := DataW.trod_struct Tryz.underlying73 hy
    obtain ⟨y0, h0⟩ := fieldOf hn hf 0 9 0 cells9 ⟨_, rfl, rfl, rfl⟩
    obtain ⟨y1, h1⟩ := fieldOf hn hf 1 4 1 cells4 ⟨_, rfl, rfl, rfl⟩
    obtain ⟨s0, e0, _, q0⟩ := DataW.trod_string Tryz.underlying9 h0
    obtain ⟨s1, e1, _⟩ := DataW.trod_bool Tryz.underlying4 h1
    obtain ⟨a, b, rfl⟩ : ∃ a b, r = [a, b] := len2 hr
    simp at e0 e1
    exact ⟨(s0, s1), by rw [e0, e1], q0⟩
theorem tks_in (ht : Tryz.prog.underlying t = some (.slice 28)) (h : DataW.trod enc Tryz.prog W base spare held fuel t [v] = some x) : ∃ l, Tks W v l :=
  sq_in ht (by kernel_rfl) (by omega) h fun r n y hr hy => by
    match r, hr with
    | [u], _ =>
      obtain ⟨l, hl⟩ := strs_in Tryz.underlying28 hy
      exact ⟨l, u, rfl, hl⟩
theorem txs_in (ht : Tryz.prog.underlying t = some (.slice 85)) (h : DataW.trod enc Tryz.prog W base spare held fuel t [v] = some x) : ∃ l, Txs W v l :=
  sq_in ht (by kernel_rfl) (by omega) h fun r n y hr hy => by
    obtain ⟨xs, m, _, _, _, hn, hf⟩ := DataW.trod_struct Tryz.underlying85 hy
    obtain ⟨y0, h0⟩ := fieldOf hn hf 0 9 0 cells9 ⟨_, rfl, rfl, rfl⟩
    obtain ⟨y1, h1⟩ := fieldOf hn hf 1 3 1 cells3 ⟨_, rfl, rfl, rfl⟩
    obtain ⟨y2, h2⟩ := fieldOf hn hf 2 3 2 cells3 ⟨_, rfl, rfl, rfl⟩
    obtain ⟨y3, h3⟩ := fieldOf hn hf 3 76 3 cells76 ⟨_, rfl, rfl, rfl⟩
    obtain ⟨a, b, c, d, rfl⟩ : ∃ a b c d, r = [a, b, c, d] := len4 hr
    obtain ⟨s0, e0, _, q0⟩ := DataW.trod_string Tryz.underlying9 h0
    obtain ⟨z1, e1, q1⟩ := int_in h1
    obtain ⟨z2, e2, q2⟩ := int_in h2
    obtain ⟨l, hl⟩ := keys_in (v := d) Tryz.underlying76 h3
    simp at e0 e1 e2
    exact ⟨⟨s0, z1, z2, l⟩, d, by rw [e0, e1, e2], hl, q0, q1, q2⟩
theorem rgs_in (ht : Tryz.prog.underlying t = some (.slice 78)) (h : DataW.trod enc Tryz.prog W base spare held fuel t [v] = some x) : ∃ l, Txs W v l :=
  sq_in ht (by kernel_rfl) (by omega) h fun r n y hr hy => by
    obtain ⟨xs, m, _, _, _, hn, hf⟩ := DataW.trod_struct Tryz.underlying78 hy
    obtain ⟨y0, h0⟩ := fieldOf hn hf 0 9 0 cells9 ⟨_, rfl, rfl, rfl⟩
    obtain ⟨y1, h1⟩ := fieldOf hn hf 1 3 1 cells3 ⟨_, rfl, rfl, rfl⟩
    obtain ⟨y2, h2⟩ := fieldOf hn hf 2 3 2 cells3 ⟨_, rfl, rfl, rfl⟩
    obtain ⟨y3, h3⟩ := fieldOf hn hf 3 76 3 cells76 ⟨_, rfl, rfl, rfl⟩
    obtain ⟨a, b, c, d, rfl⟩ : ∃ a b c d, r = [a, b, c, d] := len4 hr
    obtain ⟨s0, e0, _, q0⟩ := DataW.trod_string Tryz.underlying9 h0
    obtain ⟨z1, e1, q1⟩ := int_in h1
    obtain ⟨z2, e2, q2⟩ := int_in h2
    obtain ⟨l, hl⟩ := keys_in (v := d) Tryz.underlying76 h3
    simp at e0 e1 e2
    exact ⟨⟨s0, z1, z2, l⟩, d, by rw [e0, e1, e2], hl, q0, q1, q2⟩
theorem nds_in (ht : Tryz.prog.underlying t = some (.slice 33)) (h : DataW.trod enc Tryz.prog W base spare held fuel t [v] = some x) : ∃ l, Nds W v l :=
  sq_in ht (by kernel_rfl) (by omega) h fun r n y hr hy => by
    obtain ⟨xs, m, _, _, _, hn, hf⟩ := DataW.trod_struct Tryz.underlying33 hy
    obtain ⟨y0, h0⟩ := fieldOf hn hf 0 9 0 cells9 ⟨_, rfl, rfl, rfl⟩
    obtain ⟨y1, h1⟩ := fieldOf hn hf 1 3 1 cells3 ⟨_, rfl, rfl, rfl⟩
    obtain ⟨y2, h2⟩ := fieldOf hn hf 2 3 2 cells3 ⟨_, rfl, rfl, rfl⟩
    obtain ⟨y3, h3⟩ := fieldOf hn hf 3 3 3 cells3 ⟨_, rfl, rfl, rfl⟩
    obtain ⟨a, b, c, d, rfl⟩ : ∃ a b c d, r = [a, b, c, d] := len4 hr
    obtain ⟨s0, e0, _, q0⟩ := DataW.trod_string Tryz.underlying9 h0
    obtain ⟨z1, e1, q1⟩ := int_in h1
    obtain ⟨z2, e2, q2⟩ := int_in h2
    obtain ⟨z3, e3, q3⟩ := int_in h3
    simp at e0 e1 e2 e3
    exact ⟨⟨s0, z1, z2, z3⟩, by rw [e0, e1, e2, e3], q0, q1, q2, q3⟩
end
/-- A corpus's content. -/
structure Co where
  ats : List (ByteArray × Bool)
  tks : List (List ByteArray)
  txs : List Tx
  rgs : List Tx
  nds : List Nd
  hds : List Int
  rls : List ByteArray
/-- A corpus as seven slice values. -/
structure Cp (w : World) (a t x r k h l : Value) (C : Co) : Prop where
  ats : Ats w a C.ats
  tks : Tks w t C.tks
  txs : Txs w x C.txs
  rgs : Txs w r C.rgs
  nds : Nds w k C.nds
  hds : Is w h C.hds
  rls : Ss w l C.rls
theorem Cp.below {w w' : World} {a t x r k h l : Value} {C : Co} (H : Cp w a t x r k h l C) (hb : Below w.heap.size w w') : Cp w' a t x r k h l C :=
  ⟨H.ats.below hb, H.tks.below hb, H.txs.below hb, H.rgs.below hb, H.nds.below hb, H.hds.below hb, H.rls.below hb⟩
set_option maxRecDepth 100000 in
theorem cp_in {H : Type} {enc : TypeId × Value → H} {W : World} {cs : List Value} {x : DataW H × List MemPlace} {fuel base : Nat} {spare : Nat → Bool} {held : Bool} (h : DataW.trod enc Tryz.prog W base spare held fuel 30 cs = some x) :
    ∃ a t x r k h l C, cs = [a, t, x, r, k, h, l] ∧ Cp W a t x r k h l C := by
  obtain ⟨xs, m, _, _, hl, hn, hf⟩ := DataW.trod_struct Tryz.underlying30 h
  have hl7 : cs.length = 7 := hl.trans (by kernel_rfl)
  obtain ⟨y0, h0⟩ := fieldOf hn hf 0 22 0 (by kernel_rfl) ⟨_, rfl, rfl, rfl⟩
  obtain ⟨y1, h1⟩ := fieldOf hn hf 1 23 1 (by kernel_rfl) ⟨_, rfl, rfl, rfl⟩
  obtain ⟨y2, h2⟩ := fieldOf hn hf 2 24 2 (by kernel_rfl) ⟨_, rfl, rfl, rfl⟩
  obtain ⟨y3, h3⟩ := fieldOf hn hf 3 25 3 (by kernel_rfl) ⟨_, rfl, rfl, rfl⟩
  obtain ⟨y4, h4⟩ := fieldOf hn hf 4 26 4 (by kernel_rfl) ⟨_, rfl, rfl, rfl⟩
  obtain ⟨y5, h5⟩ := fieldOf hn hf 5 27 5 (by kernel_rfl) ⟨_, rfl, rfl, rfl⟩
  obtain ⟨y6, h6⟩ := fieldOf hn hf 6 28 6 (by kernel_rfl) ⟨_, rfl, rfl, rfl⟩
  match cs, hl7 with
  | [a, t, x, r, k, h, l], _ =>
    obtain ⟨l0, g0⟩ := ats_in (v := a) Tryz.underlying22 h0
    obtain ⟨l1, g1⟩ := tks_in (v := t) Tryz.underlying23 h1
    obtain ⟨l2, g2⟩ := txs_in (v := x) Tryz.underlying24 h2
    obtain ⟨l3, g3⟩ := rgs_in (v := r) Tryz.underlying25 h3
    obtain ⟨l4, g4⟩ := nds_in (v := k) Tryz.underlying26 h4
    obtain ⟨l5, g5⟩ := ints_in (v := h) Tryz.underlying27 h5
    obtain ⟨l6, g6⟩ := strs_in (v := l) Tryz.underlying28 h6
    exact ⟨a, t, x, r, k, h, l, ⟨l0, l1, l2, l3, l4, l5, l6⟩, rfl, Cp.mk g0 g1 g2 g3 g4 g5 g6⟩
end Go.Proofs.YthjcmodhleoocaaGreatDoor.Z
