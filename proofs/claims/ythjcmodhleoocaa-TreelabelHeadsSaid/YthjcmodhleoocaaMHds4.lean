/- The law TreelabelHeads answers true for every input, and each argument reads behind the call as it read before. -/
import Derived.Test.YthjcmodhleoocaaMHds3
import Derived.Test.YthjcmodhleoocaaMHds1
import Derived.Test.YthjcmodhleoocaaMHds2
import Derived.Test.YthjcmodhleoocaaRows
import Derived.WalkKit
import Derived.ProofKit
import Derived.OpenShut
import Derived.ShutString
import Derived.ChangeOld
import Derived.Below
import Derived.SizedLaws
import Derived.Test.YthjcmodhleoocaaWSized
set_option linter.unusedVariables false
set_option linter.unusedSimpArgs false
set_option linter.unusedSectionVars false
/- CheckLaw -/
namespace Go.Proofs.Ythjcmodhleoocaa.Q
open Go.RowKit Go.Proofs.YthjcmodhleoocaaW.PrintWords Go.Proofs.YthjcmodhleoocaaW.PrintLast
open Go.Proofs.Ythjcmodhleoocaa.TP

/-- The answer of a check of parents: (index, error). -/
def ChkR (ps : List Int) (r : Int × Int) : Prop :=
  (4096 < ps.length ∧ r = (0, 2)) ∨
  (ps.length ≤ 4096 ∧ ∃ i : Nat, i < ps.length ∧ (rdi ps i < -1 ∨ (ps.length : Int) ≤ rdi ps i) ∧ (∀ j : Nat, j < i → -1 ≤ rdi ps j ∧ rdi ps j < ps.length) ∧ r = ((i : Int), 8)) ∨
  (ps.length ≤ 4096 ∧ InR ps ∧ ∃ i : Int, i < ps.length ∧ Cyc ps i ∧ (∀ j : Int, j < ps.length → Cyc ps j → i ≤ j) ∧ r = (i, 12)) ∨
  (ps.length ≤ 4096 ∧ InR ps ∧ (∀ j : Int, 0 ≤ j → j < ps.length → ¬ Cyc ps j) ∧ r = (0, 0))
theorem ChkR.uniq {ps : List Int} {r r' : Int × Int} (h : ChkR ps r) (h' : ChkR ps r') : r = r' := by
  rcases h with ⟨a, rfl⟩ | ⟨a, i, hi, hb, hl, rfl⟩ | ⟨a, hr, i, hi, hc, hl, rfl⟩ | ⟨a, hr, hn, rfl⟩ <;> rcases h' with ⟨a', rfl⟩ | ⟨a', i', hi', hb', hl', rfl⟩ | ⟨a', hr', i', hi', hc', hl', rfl⟩ | ⟨a', hr', hn', rfl⟩
  · rfl
  · omega
  · omega
  · omega
  · omega
  · have h1 : ¬ i < i' := fun h => by have := hl' i h; omega
    have h2 : ¬ i' < i := fun h => by have := hl i' h; omega
    have : i = i' := by omega
    rw [this]
  · have := hr' i (by omega) (by omega); omega
  · have := hr' i (by omega) (by omega); omega
  · omega
  · have := hr i' (by omega) (by omega); omega
  · have h1 := hl i' hi' hc'
    have h2 := hl' i hi hc
    have : i = i' := by omega
    rw [this]
  · exact absurd hc (hn' i hc.1 hi)
  · omega
  · have := hr i' (by omega) (by omega); omega
  · exact absurd hc' (hn i' hc'.1 hi')
  · rfl
theorem inR_of {ps : List Int} (h : ∀ j : Nat, j < ps.length → -1 ≤ rdi ps j ∧ rdi ps j < ps.length) : InR ps := by
  intro x hx hx'
  have := h x.toNat (by omega)
  rwa [Int.toNat_of_nonneg hx] at this

/-- What is known between two walks: every visited node's way up is visited, and the least node on a cycle so far. -/
structure Seen (ps : List Int) (i : Nat) (seen : List Int) (least : Int) : Prop where
  len : seen.length = ps.length
  num : ∀ v : Int, 0 ≤ v → v < ps.length → 0 ≤ rd seen v ∧ rd seen v ≤ i
  closed : ∀ v : Int, 0 ≤ v → v < ps.length → rd seen v ≠ 0 → stp ps v < 0 ∨ rd seen (stp ps v) ≠ 0
  all : ∀ v : Int, 0 ≤ v → v < i → rd seen v ≠ 0
  least : (least = -1 ∧ ∀ v : Int, 0 ≤ v → v < ps.length → rd seen v ≠ 0 → ¬ Cyc ps v) ∨
    (0 ≤ least ∧ least < ps.length ∧ Cyc ps least ∧ ∀ v : Int, 0 ≤ v → v < ps.length → rd seen v ≠ 0 → Cyc ps v → least ≤ v)
theorem Seen.up {ps : List Int} {i : Nat} {seen : List Int} {least : Int} (h : Seen ps i seen least) (hr : InR ps) {v : Int} (hv : 0 ≤ v) (hv' : v < ps.length) (hs : rd seen v ≠ 0) (m : Nat) (hm : 0 ≤ TP.up ps m v) : rd seen (TP.up ps m v) ≠ 0 := by
  induction m with
  | zero => exact hs
  | succ m ih =>
    have h0 : 0 ≤ TP.up ps m v := up_nn_of (Nat.le_succ m) hm
    have h1 := ih h0
    rcases h.closed _ h0 (up_range hr (by omega) hv' m).2 h1 with h2 | h2
    · rw [up_out] at hm; omega
    · rw [up_out]; exact h2

/-- A walk from i has come t steps; seen0: what was seen before it. -/
structure Walk (ps : List Int) (i : Nat) (seen0 seen : List Int) (t : Nat) : Prop where
  len : seen.length = ps.length
  new : ∀ s, s < t → 0 ≤ TP.up ps s i ∧ rd seen0 (TP.up ps s i) = 0 ∧ rd seen (TP.up ps s i) = (i : Int) + 1
  old : ∀ v : Int, 0 ≤ v → v < ps.length → (∀ s, s < t → TP.up ps s i ≠ v) → rd seen v = rd seen0 v
  inj : ∀ s s', s < t → s' < s → TP.up ps s' i ≠ TP.up ps s i

theorem Walk.cases {ps : List Int} {i : Nat} {seen0 seen : List Int} {t : Nat} (h : Walk ps i seen0 seen t) {v : Int} (hv : 0 ≤ v) (hv' : v < ps.length) : (∃ s, s < t ∧ TP.up ps s i = v) ∨ rd seen v = rd seen0 v := by
  by_cases e : ∃ s, s < t ∧ TP.up ps s i = v
  · exact .inl e
  · exact .inr (h.old v hv hv' (fun s hs he => e ⟨s, hs, he⟩))
theorem Walk.start {ps : List Int} {i : Nat} {seen0 : List Int} (h : seen0.length = ps.length) : Walk ps i seen0 seen0 0 :=
  ⟨h, fun _ hs => absurd hs (Nat.not_lt_zero _), fun _ _ _ _ => rfl, fun _ _ hs => absurd hs (Nat.not_lt_zero _)⟩
theorem Walk.next {ps : List Int} {i : Nat} {seen0 seen : List Int} {t : Nat} (hr : InR ps) (hi : i < ps.length) (h : Walk ps i seen0 seen t) (h0 : 0 ≤ TP.up ps t i) (hz : rd seen (TP.up ps t i) = 0) :
    Walk ps i seen0 (seen.set (TP.up ps t i).toNat ((i : Int) + 1)) (t + 1) := by
  have hlt : TP.up ps t i < ps.length := (up_range hr (by omega) (by omega) t).2
  have hnew : ∀ s, s < t → TP.up ps s i ≠ TP.up ps t i := fun s hs e => by
    have := (h.new s hs).2.2
    rw [e, hz] at this
    omega
  refine ⟨by rw [List.length_set]; exact h.len, fun s hs => ?_, fun v hv hv' hne => ?_, fun s s' hs hs' => ?_⟩
  · rcases Nat.lt_or_ge s t with h1 | h1
    · have h2 := h.new s h1
      exact ⟨h2.1, h2.2.1, by rw [rd_set_ne h0 h2.1 (hnew s h1).symm]; exact h2.2.2⟩
    · obtain rfl : s = t := by omega
      refine ⟨h0, ?_, rd_set_same h0 (by rw [h.len]; exact hlt)⟩
      rw [← h.old _ h0 hlt hnew]; exact hz
  · rw [rd_set_ne h0 hv (hne t (by omega))]
    exact h.old v hv hv' (fun s hs => hne s (by omega))
  · rcases Nat.lt_or_ge s t with h1 | h1
    · exact h.inj s s' h1 hs'
    · obtain rfl : s = t := by omega
      exact hnew s' hs'
/-- A walk comes no further than there are nodes. -/
theorem Walk.short {ps : List Int} {i : Nat} {seen0 seen : List Int} {t : Nat} (hr : InR ps) (hi : i < ps.length) (h : Walk ps i seen0 seen t) : t ≤ ps.length := by
  refine inj_le t ps.length (fun s => (TP.up ps s i).toNat) (fun s hs => ?_) (fun a b ha hb e => ?_)
  · exact natAbs_lt (h.new s hs).1 (up_range hr (by omega) (by omega) s).2
  · have h1 := (h.new a ha).1
    have h2 := (h.new b hb).1
    have e' : TP.up ps a i = TP.up ps b i := by
      have e2 : (TP.up ps a i).toNat = (TP.up ps b i).toNat := e
      omega
    rcases Nat.lt_trichotomy a b with h3 | h3 | h3
    · exact absurd e' (h.inj b a hb h3)
    · exact h3
    · exact absurd e'.symm (h.inj a b ha h3)
/-- The walk has ended: what is seen now is closed, and node i is seen. -/
theorem Walk.closes {ps : List Int} {i : Nat} {seen0 seen : List Int} {t : Nat} {least : Int} (hr : InR ps) (hi : i < ps.length) (hs : Seen ps i seen0 least) (h : Walk ps i seen0 seen t) (hend : TP.up ps t i < 0 ∨ rd seen (TP.up ps t i) ≠ 0) :
    (∀ v : Int, 0 ≤ v → v < ps.length → 0 ≤ rd seen v ∧ rd seen v ≤ (i + 1 : Nat)) ∧ (∀ v : Int, 0 ≤ v → v < ps.length → rd seen v ≠ 0 → stp ps v < 0 ∨ rd seen (stp ps v) ≠ 0) ∧ (∀ v : Int, 0 ≤ v → v < (i + 1 : Nat) → rd seen v ≠ 0) := by
  have hold : ∀ v : Int, 0 ≤ v → v < ps.length → rd seen0 v ≠ 0 → rd seen v ≠ 0 := fun v hv hv' hn => by
    rcases h.cases hv hv' with ⟨s, hs1, e⟩ | e
    · have h2 := h.new s hs1
      rw [e] at h2; omega
    · rw [e]; exact hn
  refine ⟨fun v hv hv' => ?_, fun v hv hv' hn => ?_, fun v hv hv' => ?_⟩
  · rcases h.cases hv hv' with ⟨s, hs1, e⟩ | e
    · have h2 := h.new s hs1
      rw [e] at h2; omega
    · have := hs.num v hv hv'
      rw [e]; omega
  · rcases h.cases hv hv' with ⟨s, hs1, e⟩ | e
    · subst e
      rw [← up_out]
      rcases Nat.lt_or_ge (s + 1) t with h1 | h1
      · right; have := (h.new _ h1).2.2; omega
      · obtain rfl : s + 1 = t := by omega
        exact hend
    · rw [e] at hn
      rcases hs.closed v hv hv' hn with h1 | h1
      · exact .inl h1
      · have h2 : 0 ≤ stp ps v ∨ stp ps v < 0 := by omega
        rcases h2 with h2 | h2
        · right
          refine hold _ h2 ?_ h1
          rw [stp_nn hv]; exact (hr v hv hv').2
        · exact .inl h2
  · rcases Int.lt_or_le v i with h1 | h1
    · exact hold v hv (by omega) (hs.all v hv h1)
    · obtain rfl : v = i := by omega
      rcases Nat.eq_zero_or_pos t with h2 | h2
      · subst h2
        rcases hend with h3 | h3
        · simp only [TP.up] at h3; omega
        · exact h3
      · have := (h.new 0 h2).2.2
        simp only [TP.up] at this
        omega

/-- The walk ended outside, or at what was seen before: it met no cycle. -/
theorem Walk.plain {ps : List Int} {i : Nat} {seen0 seen : List Int} {t : Nat} {least : Int} (hr : InR ps) (hi : i < ps.length) (hs : Seen ps i seen0 least) (h : Walk ps i seen0 seen t)
    (hend : TP.up ps t i < 0 ∨ rd seen0 (TP.up ps t i) ≠ 0) : ∀ s, s < t → ¬ Cyc ps (TP.up ps s i) := by
  intro s hst hc
  have hcr : ∀ m, 0 ≤ TP.up ps (m + s) i := fun m => by rw [up_add]; exact cyc_up_nn hc m
  have ht0 : 0 ≤ TP.up ps t i := by have := hcr (t - s); rwa [Nat.sub_add_cancel (by omega)] at this
  rcases hend with h1 | h1
  · omega
  · obtain ⟨j, hj⟩ := cyc_back hc (t - s)
    rw [← up_add ps (t - s) s, Nat.sub_add_cancel (by omega)] at hj
    have h2 := hs.up hr ht0 (up_range hr (by omega) (by omega) t).2 h1 j (by rw [hj]; exact hc.1)
    rw [hj] at h2
    exact h2 (h.new s hst).2.1
theorem Walk.seen_plain {ps : List Int} {i : Nat} {seen0 seen : List Int} {t : Nat} {least : Int} (hr : InR ps) (hi : i < ps.length) (hs : Seen ps i seen0 least) (h : Walk ps i seen0 seen t)
    (hend : TP.up ps t i < 0 ∨ rd seen0 (TP.up ps t i) ≠ 0) : Seen ps (i + 1) seen least := by
  have hend' : TP.up ps t i < 0 ∨ rd seen (TP.up ps t i) ≠ 0 := by
    rcases hend with h1 | h1
    · exact .inl h1
    · rcases Int.lt_or_le (TP.up ps t i) 0 with h2 | h2
      · exact .inl h2
      · right
        rcases h.cases h2 (up_range hr (by omega) (by omega) t).2 with ⟨s, hs1, e⟩ | e
        · have := (h.new s hs1).2.2; rw [e] at this; omega
        · rw [e]; exact h1
  obtain ⟨h1, h2, h3⟩ := h.closes hr hi hs hend'
  refine ⟨h.len, h1, h2, h3, ?_⟩
  have hnc := h.plain hr hi hs hend
  rcases hs.least with ⟨e, hl⟩ | ⟨h4, h5, h6, hl⟩
  · refine .inl ⟨e, fun v hv hv' hn => ?_⟩
    rcases h.cases hv hv' with ⟨s, hs1, e⟩ | e
    · rw [← e]; exact hnc s hs1
    · rw [e] at hn; exact hl v hv hv' hn
  · refine .inr ⟨h4, h5, h6, fun v hv hv' hn hc => ?_⟩
    rcases h.cases hv hv' with ⟨s, hs1, e⟩ | e
    · rw [← e] at hc; exact absurd hc (hnc s hs1)
    · rw [e] at hn; exact hl v hv hv' hn hc
/-- The walk came back to a point of its own: the nodes on a cycle among the new ones are those that follow that point. -/
theorem Walk.ring {ps : List Int} {i : Nat} {seen0 seen : List Int} {t a : Nat} (h : Walk ps i seen0 seen t) (ha : a < t) (hback : TP.up ps t i = TP.up ps a i) :
    Cyc ps (TP.up ps a i) ∧ ∀ s, s < t → Cyc ps (TP.up ps s i) → ∃ m, m < t - a ∧ TP.up ps m (TP.up ps a i) = TP.up ps s i := by
  have hper : TP.up ps (t - a) (TP.up ps a i) = TP.up ps a i := by rw [← up_add, Nat.sub_add_cancel (by omega)]; exact hback
  refine ⟨⟨(h.new a ha).1, t - a, by omega, hper⟩, fun s hs hc => ?_⟩
  rcases Nat.lt_or_ge s a with h1 | h1
  · exfalso
    -- the cycle of up s i passes through up a i, whose ring stays within the later points
    obtain ⟨j, hj⟩ := cyc_back hc (a - s)
    rw [← up_add ps (a - s) s, Nat.sub_add_cancel (by omega)] at hj
    have hmod : TP.up ps j (TP.up ps a i) = TP.up ps (j % (t - a)) (TP.up ps a i) := by
      have e : j = j % (t - a) + (j / (t - a)) * (t - a) := by have := Nat.mod_add_div j (t - a); rw [Nat.mul_comm] at this; omega
      rw [e, up_add, cyc_mul hper]
      congr 1
      rw [Nat.add_mul_mod_self_right, Nat.mod_mod]
    have hlt : j % (t - a) < t - a := Nat.mod_lt _ (by omega)
    rw [hmod, ← up_add] at hj
    exact h.inj (j % (t - a) + a) s (by omega) (by omega) hj.symm
  · exact ⟨s - a, by omega, by rw [← up_add, Nat.sub_add_cancel h1]⟩
theorem Walk.seen_ring {ps : List Int} {i : Nat} {seen0 seen : List Int} {t a : Nat} {least least' : Int} (hr : InR ps) (hi : i < ps.length) (hs : Seen ps i seen0 least) (h : Walk ps i seen0 seen t) (ha : a < t) (hback : TP.up ps t i = TP.up ps a i)
    (hle : ∃ p, 0 < p ∧ TP.up ps p (TP.up ps a i) = TP.up ps a i ∧ (∀ m, m < p → least' ≤ TP.up ps m (TP.up ps a i)) ∧ (least = -1 ∨ least' ≤ least) ∧ ((least' = least ∧ least ≠ -1) ∨ ∃ m, least' = TP.up ps m (TP.up ps a i))) : Seen ps (i + 1) seen least' := by
  obtain ⟨hc, hring⟩ := h.ring ha hback
  obtain ⟨p, hp, hper, hall, hmin, hfrom⟩ := hle
  have ha0 := h.new a ha
  have hend' : TP.up ps t i < 0 ∨ rd seen (TP.up ps t i) ≠ 0 := .inr (by rw [hback, ha0.2.2]; omega)
  obtain ⟨h1, h2, h3⟩ := h.closes hr hi hs hend'
  have hax : TP.up ps a i < ps.length := (up_range hr (by omega) (by omega) a).2
  have hall' : ∀ m, least' ≤ TP.up ps m (TP.up ps a i) := fun m => by
    have e : m = m % p + (m / p) * p := by have := Nat.mod_add_div m p; rw [Nat.mul_comm] at this; omega
    rw [e, up_add, cyc_mul hper]
    have : m % p + m / p * p = m := e.symm
    refine hall (m % p) (Nat.mod_lt _ hp)
  have hnew : ∀ v : Int, 0 ≤ v → v < ps.length → rd seen v ≠ 0 → Cyc ps v → least' ≤ v := fun v hv hv' hn hcv => by
    rcases h.cases hv hv' with ⟨s, hs1, e⟩ | e
    · rw [← e] at hcv ⊢
      obtain ⟨m, _, hm⟩ := hring s hs1 hcv
      rw [← hm]; exact hall' m
    · rw [e] at hn
      rcases hs.least with ⟨e1, hl⟩ | ⟨h4, h5, h6, hl⟩
      · exact absurd hcv (hl v hv hv' hn)
      · have := hl v hv hv' hn hcv
        rcases hmin with h7 | h7 <;> omega
  refine ⟨h.len, h1, h2, h3, .inr ?_⟩
  rcases hfrom with ⟨e, hne⟩ | ⟨m, e⟩
  · subst e
    rcases hs.least with ⟨e1, _⟩ | ⟨h4, h5, h6, _⟩
    · exact absurd e1 hne
    · exact ⟨h4, h5, h6, hnew⟩
  · subst e
    exact ⟨cyc_up_nn hc m, (up_range hr (by omega) hax m).2, cyc_up hc m, hnew⟩

/-- The shortest way round. -/
theorem least_period {ps : List Int} {x : Int} (h : Cyc ps x) : ∃ p, 0 < p ∧ TP.up ps p x = x ∧ ∀ m, 0 < m → m < p → TP.up ps m x ≠ x := by
  obtain ⟨_, m, hm, e⟩ := h
  have key : ∀ m, 0 < m → TP.up ps m x = x → ∃ p, 0 < p ∧ TP.up ps p x = x ∧ ∀ j, 0 < j → j < p → TP.up ps j x ≠ x := by
    intro m
    induction m using Nat.strongRecOn with
    | _ m ih =>
      intro hm e
      by_cases hx : ∃ j, 0 < j ∧ j < m ∧ TP.up ps j x = x
      · obtain ⟨j, h1, h2, h3⟩ := hx
        exact ih j h2 h1 h3
      · exact ⟨m, hm, e, fun j h1 h2 h3 => hx ⟨j, h1, h2, h3⟩⟩
  exact key m hm e
end Go.Proofs.Ythjcmodhleoocaa.Q
/- NumEv -/
namespace Go.Proofs.Ythjcmodhleoocaa.Q
open Go.RowKit Go.Proofs.YthjcmodhleoocaaW.PrintWords Go.Proofs.YthjcmodhleoocaaW.PrintLast
open Go.Proofs.Ythjcmodhleoocaa.TP
theorem ev_uniq {α : Type} {g : Nat → Option α} {r r' : α} (h : Ev g r) (h' : Ev g r') : r = r' := by
  obtain ⟨K, hK⟩ := h
  obtain ⟨K', hK'⟩ := h'
  have h1 := hK (max K K') (Nat.le_max_left _ _)
  have h2 := hK' (max K K') (Nat.le_max_right _ _)
  rw [h1] at h2
  exact Option.some.inj h2
/-- The labels: with enough levels. -/
def HasNum (ps : List Int) (L : List Lab) : Prop := Ev (fun k => numL k ps) L
theorem HasNum.uniq {ps : List Int} {L L' : List Lab} (h : HasNum ps L) (h' : HasNum ps L') : L = L' := ev_uniq h h'
theorem num_ev {ps : List Int} (hn : ps.length ≤ 4096) (hf : Forest ps) : ∃ t, visL ps (lim ps.length) (kidsOf ps (-1)) 0 (blank ps.length) = some t ∧ t.pre ≤ 1000000 ∧ t.post ≤ 1000000 ∧ LabOf ps t.L ∧ HasNum ps t.L := by
  obtain ⟨t, ht, hp, hq, hL⟩ := num_res hf ps.length (Nat.le_refl _)
  have hl : lim ps.length = ps.length := lim_of (by omega)
  have ht' : visL ps (lim ps.length) (kidsOf ps (-1)) 0 (blank ps.length) = some t := by rw [hl]; exact ht
  exact ⟨t, ht', by omega, by omega, hL, Ev.of (fun k => numL_mono k ps) (numL_of (by omega) ht' (by omega) (by omega))⟩
theorem HasNum.lab {ps : List Int} {L : List Lab} (hn : ps.length ≤ 4096) (hf : Forest ps) (h : HasNum ps L) : LabOf ps L := by
  obtain ⟨t, _, _, _, h1, h2⟩ := num_ev hn hf
  rw [h.uniq h2]; exact h1
/-- A check that says OK: a forest. -/
theorem ChkR.forest {ps : List Int} {r : Int × Int} (h : ChkR ps r) (h0 : r.2 = 0) : ps.length ≤ 4096 ∧ Forest ps ∧ r.1 = 0 := by
  rcases h with ⟨a, rfl⟩ | ⟨a, i, hi, hb, hl, rfl⟩ | ⟨a, hr, i, hi, hc, hl, rfl⟩ | ⟨a, hr, hn, rfl⟩
  · cases h0
  · cases h0
  · cases h0
  · exact ⟨a, ⟨hr, hn⟩, rfl⟩
theorem ChkR.of_forest {ps : List Int} {r : Int × Int} (h : ChkR ps r) (hn : ps.length ≤ 4096) (hf : Forest ps) : r = (0, 0) := h.uniq (.inr (.inr (.inr ⟨hn, hf.rng, hf.nc, rfl⟩)))
theorem ChkR.cases {ps : List Int} {r : Int × Int} (h : ChkR ps r) : (r.2 = 0 ∧ r.1 = 0 ∧ ps.length ≤ 4096 ∧ Forest ps) ∨ (r.2 ≠ 0 ∧ ¬ (ps.length ≤ 4096 ∧ Forest ps)) := by
  by_cases h0 : r.2 = 0
  · obtain ⟨a, b, c⟩ := h.forest h0
    exact .inl ⟨h0, c, a, b⟩
  · refine .inr ⟨h0, fun hx => h0 ?_⟩
    rw [h.of_forest hx.1 hx.2]
end Go.Proofs.Ythjcmodhleoocaa.Q
/- CheckEv -/
namespace Go.Proofs.Ythjcmodhleoocaa.Q
open Go.RowKit Go.Proofs.YthjcmodhleoocaaW.PrintWords Go.Proofs.YthjcmodhleoocaaW.PrintLast
open Go.Proofs.Ythjcmodhleoocaa.TP

section
variable {ps : List Int}
/-- The loop around a cycle. -/
theorem chk_ring (hn : ps.length ≤ 4096) (hr : InR ps) {i : Nat} (hi : i < ps.length) {at_ : Int} {seen : List Int} {least : Int} {p : Nat} (hl0 : -1 ≤ least) (hat : 0 ≤ at_) (hat' : at_ < ps.length) (hp : 0 < p) (hper : TP.up ps p at_ = at_) (hmin : ∀ m, 0 < m → m < p → TP.up ps m at_ ≠ at_) (hcy : ∀ m, 0 ≤ TP.up ps m at_)
    (next : ∀ least', -1 ≤ least' → (∀ m, m < p → least' ≤ TP.up ps m at_) → (least = -1 ∨ least' ≤ least) → ((least' = least ∧ least ≠ -1) ∨ ∃ m, least' = TP.up ps m at_) → ∃ r, ChkR ps r ∧ Ev (fun k => treelabel_check.l1 k ps seen least' (ps.length : Int) (wrap64 ((i : Int) + 1))) r) (d : Nat) :
    ∀ (m : Nat) (lm : Int), m + d = p → -1 ≤ lm → (∀ j, j < m → lm ≤ TP.up ps j at_) → (least = -1 ∨ lm ≤ least) → (lm = least ∨ ∃ j, lm = TP.up ps j at_) → (0 < m → 0 ≤ lm) →
      ∃ r, ChkR ps r ∧ Ev (fun k => treelabel_check.l3 k ps seen lm at_ (TP.up ps m at_) (decide (m = 0)) (ps.length : Int) (i : Int)) r := by
  induction d with
  | zero =>
    intro m lm hm h0 hall hle hfrom hpos
    obtain rfl : m = p := by omega
    obtain ⟨r, hc, he⟩ := next lm h0 hall hle (by
      rcases hfrom with e | e
      · by_cases hl : least = -1
        · have := hpos hp; omega
        · exact .inl ⟨e, hl⟩
      · exact .inr e)
    refine ⟨r, hc, ?_⟩
    rw [hper, decide_eq_false (by omega)]
    refine Ev.step (fun k => by rw [treelabel_check.l3]) ?_
    refine ev_neg (by decide) ?_
    rw [show (at_ != at_) = false from by simp]
    refine Ev.step (fun k => by rw [treelabel_check.j6]) ?_
    exact ev_neg (by decide) he
  | succ d ih =>
    intro m lm hm h0 hall hle hfrom hpos
    have hx := hcy m
    have hx' : TP.up ps m at_ < ps.length := (up_range hr (by omega) hat' m).2
    have hnext : rd ps (TP.up ps m at_) = TP.up ps (m + 1) at_ := by rw [up_out, stp_nn hx]; rfl
    have go : ∀ lm', -1 ≤ lm' → (∀ j, j < m + 1 → lm' ≤ TP.up ps j at_) → (least = -1 ∨ lm' ≤ least) → (lm' = least ∨ ∃ j, lm' = TP.up ps j at_) → 0 ≤ lm' →
        ∃ r, ChkR ps r ∧ Ev (fun k => treelabel_check.l3 k ps seen lm' at_ (rd ps (TP.up ps m at_)) false (ps.length : Int) (i : Int)) r := fun lm' a b c e f => by
      obtain ⟨r, hc, he⟩ := ih (m + 1) lm' (by omega) a b c e (fun _ => f)
      rw [decide_eq_false (by omega)] at he
      exact ⟨r, hc, by rw [hnext]; exact he⟩
    have body : ∃ r, ChkR ps r ∧ Ev (fun k => treelabel_check.j6 k ps seen lm at_ (TP.up ps m at_) (ps.length : Int) (i : Int) true) r := by
      by_cases hneg : lm < 0
      · have hlm : lm = -1 := by omega
        have hm0 : m = 0 := by
          rcases Nat.eq_zero_or_pos m with h | h
          · exact h
          · have := hpos h; omega
        have hl1 : least = -1 := by
          rcases hle with h | h
          · exact h
          · rcases hfrom with h2 | ⟨j, h2⟩
            · omega
            · have := hcy j; omega
        obtain ⟨r, hc, he⟩ := go (TP.up ps m at_) (by omega) (fun j hj => by
          obtain rfl : j = m := by omega
          exact Int.le_refl _) (.inl hl1) (.inr ⟨m, rfl⟩) hx
        refine ⟨r, hc, Ev.step (fun k => by rw [treelabel_check.j6]) ?_⟩
        exact ev_pos rfl (ev_pos hneg (ev_pos hx (ev_pos hx' he)))
      · by_cases hlt : TP.up ps m at_ < lm
        · obtain ⟨r, hc, he⟩ := go (TP.up ps m at_) (by omega) (fun j hj => by
            rcases Nat.lt_or_ge j m with h | h
            · have := hall j h; omega
            · obtain rfl : j = m := by omega
              omega) (by rcases hle with h | h; exact .inl h; exact .inr (by omega)) (.inr ⟨m, rfl⟩) hx
          refine ⟨r, hc, Ev.step (fun k => by rw [treelabel_check.j6]) ?_⟩
          exact ev_pos rfl (ev_neg hneg (ev_pos hlt (ev_pos hx (ev_pos hx' he))))
        · obtain ⟨r, hc, he⟩ := go lm h0 (fun j hj => by
            rcases Nat.lt_or_ge j m with h | h
            · exact hall j h
            · obtain rfl : j = m := by omega
              omega) hle hfrom (by omega)
          refine ⟨r, hc, Ev.step (fun k => by rw [treelabel_check.j6]) ?_⟩
          exact ev_pos rfl (ev_neg hneg (ev_neg hlt (ev_pos hx (ev_pos hx' he))))
    obtain ⟨r, hc, he⟩ := body
    refine ⟨r, hc, Ev.step (fun k => by rw [treelabel_check.l3]) ?_⟩
    by_cases hm0 : m = 0
    · exact ev_pos (by simp [hm0]) he
    · refine ev_neg (by simp [hm0]) ?_
      rw [show (TP.up ps m at_ != at_) = true from by rw [bne_iff_ne]; exact hmin m (by omega) (by omega)]
      exact he

/-- The walk from a node, and what follows. -/
theorem chk_walk (hn : ps.length ≤ 4096) (hr : InR ps) {i : Nat} (hi : i < ps.length) {seen0 : List Int} {least : Int} (hs : Seen ps i seen0 least)
    (next : ∀ seen least', Seen ps (i + 1) seen least' → ∃ r, ChkR ps r ∧ Ev (fun k => treelabel_check.l1 k ps seen least' (ps.length : Int) (wrap64 ((i : Int) + 1))) r) (d : Nat) :
    ∀ (t : Nat) (seen : List Int), t + d = ps.length → Walk ps i seen0 seen t →
      ∃ r, ChkR ps r ∧ Ev (fun k => treelabel_check.l2 k ps seen least (i : Int) (TP.up ps t i) (ps.length : Int) (i : Int)) r := by
  have hw : wrap64 ((i : Int) + 1) = (i : Int) + 1 := wrap_in _ (by omega) (by omega)
  -- behind the walk
  have tail : ∀ (t : Nat) (seen : List Int), Walk ps i seen0 seen t → (TP.up ps t i < 0 ∨ rd seen (TP.up ps t i) ≠ 0) →
      ∃ r, ChkR ps r ∧ Ev (fun k => treelabel_check.j3 k ps seen least (i : Int) (TP.up ps t i) (ps.length : Int) (i : Int)) r := by
    intro t seen hwk hend
    have hlt : TP.up ps t i < ps.length := (up_range hr (by omega) (by omega) t).2
    by_cases hneg : TP.up ps t i < 0
    · obtain ⟨r, hc, he⟩ := next seen least (hwk.seen_plain hr hi hs (.inl hneg))
      refine ⟨r, hc, Ev.step (fun k => by rw [treelabel_check.j3]) ?_⟩
      refine ev_pos hneg ?_
      refine Ev.step (fun k => by rw [treelabel_check.j4]) ?_
      exact ev_pos rfl he
    · have h0 : 0 ≤ TP.up ps t i := by omega
      have hne : rd seen (TP.up ps t i) ≠ 0 := by rcases hend with h | h; omega; exact h
      by_cases hmine : rd seen (TP.up ps t i) = (i : Int) + 1
      · -- a cycle
        have hex : ∃ a, a < t ∧ TP.up ps a i = TP.up ps t i := by
          rcases hwk.cases h0 hlt with h | h
          · exact h
          · have := hs.num _ h0 hlt
            rw [← h, hmine] at this; omega
        obtain ⟨a, ha, hae⟩ := hex
        obtain ⟨hcy, _⟩ := hwk.ring ha hae.symm
        rw [hae] at hcy
        obtain ⟨p, hp, hper, hmin⟩ := least_period hcy
        have hl0 : -1 ≤ least := by rcases hs.least with ⟨e, _⟩ | ⟨e, _⟩ <;> omega
        obtain ⟨r, hc, he⟩ := chk_ring hn hr hi (seen := seen) (least := least) hl0 h0 hlt hp hper hmin (fun m => cyc_up_nn hcy m) (fun least' _ hall hle hfrom => by
          refine next seen least' (hwk.seen_ring hr hi hs ha hae.symm ⟨p, hp, by rw [hae]; exact hper, fun m hm => by rw [hae]; exact hall m hm, hle, ?_⟩)
          rw [hae]; exact hfrom) p 0 least (by omega) hl0 (fun j hj => absurd hj (Nat.not_lt_zero _)) (.inr (Int.le_refl _)) (.inl rfl) (fun h => absurd h (Nat.lt_irrefl 0))
        refine ⟨r, hc, Ev.step (fun k => by rw [treelabel_check.j3]) ?_⟩
        refine ev_neg hneg (ev_pos h0 (ev_pos (by rw [hwk.len]; exact hlt) ?_))
        rw [hw, show (rd seen (TP.up ps t i) != (i : Int) + 1) = false from by rw [bne_eq_false_iff_eq]; exact hmine]
        have he' : Ev (fun k => treelabel_check.l3 k ps seen least (TP.up ps t i) (TP.up ps t i) true (ps.length : Int) (i : Int)) r := he
        refine Ev.step (fun k => by rw [treelabel_check.j4]) ?_
        exact ev_neg (by decide) he'
      · have hold : rd seen0 (TP.up ps t i) ≠ 0 := by
          rcases hwk.cases h0 hlt with ⟨s, hs1, e⟩ | h
          · have := (hwk.new s hs1).2.2; rw [e] at this; exact absurd this hmine
          · rw [← h]; exact hne
        obtain ⟨r, hc, he⟩ := next seen least (hwk.seen_plain hr hi hs (.inr hold))
        refine ⟨r, hc, Ev.step (fun k => by rw [treelabel_check.j3]) ?_⟩
        refine ev_neg hneg (ev_pos h0 (ev_pos (by rw [hwk.len]; exact hlt) ?_))
        rw [hw, show (rd seen (TP.up ps t i) != (i : Int) + 1) = true from by rw [bne_iff_ne]; exact hmine]
        refine Ev.step (fun k => by rw [treelabel_check.j4]) ?_
        exact ev_pos rfl he
  induction d with
  | zero =>
    intro t seen ht hwk
    have hend : TP.up ps t i < 0 ∨ rd seen (TP.up ps t i) ≠ 0 := by
      rcases Int.lt_or_le (TP.up ps t i) 0 with h | h
      · exact .inl h
      · right
        intro hz
        have := (hwk.next hr hi h hz).short hr hi
        omega
    obtain ⟨r, hc, he⟩ := tail t seen hwk hend
    refine ⟨r, hc, Ev.step (fun k => by rw [treelabel_check.l2]) ?_⟩
    rcases Int.lt_or_le (TP.up ps t i) 0 with h | h
    · exact ev_neg (by omega) he
    · have hlt : TP.up ps t i < ps.length := (up_range hr (by omega) (by omega) t).2
      exact ev_pos h (ev_pos h (ev_pos (by rw [hwk.len]; exact hlt) (ev_neg (by rcases hend with h2 | h2; omega; exact h2) he)))
  | succ d ih =>
    intro t seen ht hwk
    have hlt : TP.up ps t i < ps.length := (up_range hr (by omega) (by omega) t).2
    rcases Int.lt_or_le (TP.up ps t i) 0 with h | h
    · obtain ⟨r, hc, he⟩ := tail t seen hwk (.inl h)
      refine ⟨r, hc, Ev.step (fun k => by rw [treelabel_check.l2]) ?_⟩
      exact ev_neg (by omega) he
    · by_cases hz : rd seen (TP.up ps t i) = 0
      · obtain ⟨r, hc, he⟩ := ih (t + 1) _ (by omega) (hwk.next hr hi h hz)
        refine ⟨r, hc, Ev.step (fun k => by rw [treelabel_check.l2]) ?_⟩
        refine ev_pos h (ev_pos h (ev_pos (by rw [hwk.len]; exact hlt) (ev_pos hz (ev_pos hlt ?_))))
        rw [hw, show rd ps (TP.up ps t i) = TP.up ps (t + 1) i from by rw [up_out, stp_nn h]; rfl]
        exact he
      · obtain ⟨r, hc, he⟩ := tail t seen hwk (.inr hz)
        refine ⟨r, hc, Ev.step (fun k => by rw [treelabel_check.l2]) ?_⟩
        exact ev_pos h (ev_pos h (ev_pos (by rw [hwk.len]; exact hlt) (ev_neg hz he)))

/-- The loop over all nodes. -/
theorem chk_all (hn : ps.length ≤ 4096) (hr : InR ps) (d : Nat) : ∀ (i : Nat) (seen : List Int) (least : Int), i + d = ps.length → Seen ps i seen least →
    ∃ r, ChkR ps r ∧ Ev (fun k => treelabel_check.l1 k ps seen least (ps.length : Int) (i : Int)) r := by
  induction d with
  | zero =>
    intro i seen least hi hs
    obtain rfl : i = ps.length := by omega
    rcases hs.least with ⟨e, hl⟩ | ⟨h4, h5, h6, hl⟩
    · refine ⟨(0, 0), .inr (.inr (.inr ⟨hn, hr, fun j h0 h1 => hl j h0 h1 (hs.all j h0 h1), rfl⟩)), ?_⟩
      refine Ev.step (fun k => by rw [treelabel_check.l1]) ?_
      exact ev_neg (by omega) (ev_neg (by omega) (Ev.now _))
    · refine ⟨(least, 12), .inr (.inr (.inl ⟨hn, hr, least, h5, h6, fun j hj hc => hl j hc.1 hj (hs.all j hc.1 hj) hc, rfl⟩)), ?_⟩
      refine Ev.step (fun k => by rw [treelabel_check.l1]) ?_
      exact ev_neg (by omega) (ev_pos h4 (Ev.now _))
  | succ d ih =>
    intro i seen least hi hs
    have hlt : i < ps.length := by omega
    obtain ⟨r, hc, he⟩ := chk_walk hn hr hlt hs (fun seen' least' hs' => by
      obtain ⟨r, hc, he⟩ := ih (i + 1) seen' least' (by omega) hs'
      exact ⟨r, hc, by rw [wrap_up i (by omega)]; exact he⟩) ps.length 0 seen (by omega) (Walk.start hs.len)
    refine ⟨r, hc, Ev.step (fun k => by rw [treelabel_check.l1]) ?_⟩
    exact ev_pos (by omega) he

/-- The loop that looks for a parent out of range. -/
theorem chk_range (hn : ps.length ≤ 4096) (d : Nat) : ∀ (i : Nat), i + d = ps.length → (∀ j : Nat, j < i → -1 ≤ rdi ps j ∧ rdi ps j < ps.length) →
    ∃ r, ChkR ps r ∧ Ev (fun k => treelabel_check.l0 k ps ps (ps.length : Int) (i : Int)) r := by
  induction d with
  | zero =>
    intro i hi hj
    obtain rfl : i = ps.length := by omega
    have hr := inR_of hj
    obtain ⟨r, hc, he⟩ := chk_all hn hr ps.length 0 (List.replicate ps.length 0) (-1) (by omega) ⟨by rw [List.length_replicate], fun v h0 h1 => by rw [rd_replicate h0 h1]; omega, fun v h0 h1 hne => absurd (rd_replicate h0 h1) hne, fun v h0 h1 => by omega, .inl ⟨rfl, fun v h0 h1 hne => absurd (rd_replicate h0 h1) hne⟩⟩
    refine ⟨r, hc, Ev.step (fun k => by rw [treelabel_check.l0]) ?_⟩
    refine ev_neg (by omega) (ev_pos (by omega) (ev_pos (by omega) ?_))
    rw [Int.toNat_natCast]
    exact he
  | succ d ih =>
    intro i hi hj
    have hlt : (i : Int) < ps.length := by omega
    by_cases h1 : rdi ps i < -1
    · refine ⟨(i, 8), .inr (.inl ⟨hn, i, by omega, .inl h1, hj, rfl⟩), ?_⟩
      refine Ev.step (fun k => by rw [treelabel_check.l0]) ?_
      exact ev_pos hlt (ev_pos (by omega) (ev_pos hlt (ev_pos h1 (Ev.now _))))
    · by_cases h2 : (ps.length : Int) ≤ rdi ps i
      · refine ⟨(i, 8), .inr (.inl ⟨hn, i, by omega, .inr h2, hj, rfl⟩), ?_⟩
        refine Ev.step (fun k => by rw [treelabel_check.l0]) ?_
        exact ev_pos hlt (ev_pos (by omega) (ev_pos hlt (ev_neg h1 (ev_pos h2 (Ev.now _)))))
      · obtain ⟨r, hc, he⟩ := ih (i + 1) (by omega) (fun j hji => by
          rcases Nat.lt_or_ge j i with h | h
          · exact hj j h
          · obtain rfl : j = i := by omega
            omega)
        refine ⟨r, hc, Ev.step (fun k => by rw [treelabel_check.l0]) ?_⟩
        refine ev_pos hlt (ev_pos (by omega) (ev_pos hlt (ev_neg h1 (ev_neg h2 ?_))))
        rw [wrap_up i (by omega)]
        exact he
/-- treelabel.check. -/
theorem check_ev (ps : List Int) : ∃ r, ChkR ps r ∧ Ev (fun k => treelabel_check.f k ps) r := by
  by_cases hn : 4096 < ps.length
  · exact ⟨(0, 2), .inl ⟨hn, rfl⟩, ev_pos (by omega) (Ev.now _)⟩
  · obtain ⟨r, hc, he⟩ := chk_range (ps := ps) (by omega) ps.length 0 (by omega) (fun j hj => absurd hj (Nat.not_lt_zero _))
    exact ⟨r, hc, ev_neg (by omega) he⟩
end
end Go.Proofs.Ythjcmodhleoocaa.Q
/- AssignEv -/
namespace Go.Proofs.Ythjcmodhleoocaa.Q
open Go.RowKit Go.Proofs.YthjcmodhleoocaaW.PrintWords Go.Proofs.YthjcmodhleoocaaW.PrintLast
open Go.Proofs.Ythjcmodhleoocaa.TP
/-- The children of p before index i. -/
def kidsTo (ps : List Int) (p : Int) (i : Nat) : List Nat := (List.range' 0 i).filter (fun j => ps.getD j 0 == p)
theorem kidsTo_zero (ps : List Int) (p : Int) : kidsTo ps p 0 = [] := rfl
theorem kidsTo_hit {ps : List Int} {p : Int} {i : Nat} (h : ps.getD i 0 = p) : kidsTo ps p (i + 1) = kidsTo ps p i ++ [i] := by
  unfold kidsTo
  rw [List.range'_1_concat, List.filter_append]
  rw [List.getD_eq_getElem?_getD] at h
  simp [h]
theorem kidsTo_miss {ps : List Int} {p : Int} {i : Nat} (h : ps.getD i 0 ≠ p) : kidsTo ps p (i + 1) = kidsTo ps p i := by
  unfold kidsTo
  rw [List.range'_1_concat, List.filter_append]
  rw [List.getD_eq_getElem?_getD] at h
  simp [h]
theorem kidsTo_all (ps : List Int) (p : Int) : kidsTo ps p ps.length = kidsOf ps p := rfl
theorem kidsTo_len (ps : List Int) (p : Int) (i : Nat) : (kidsTo ps p i).length ≤ i := by
  have := List.length_filter_le (fun j => ps.getD j 0 == p) (List.range' 0 i)
  unfold kidsTo
  simp at this ⊢; omega
/-- Natural numbers as whole numbers. -/
def ints (l : List Nat) : List Int := l.map Int.ofNat
theorem ints_nat (l : List Nat) : (ints l).map Int.toNat = l := by
  unfold ints
  rw [List.map_map]
  exact List.map_id'' (fun _ => rfl) l
theorem ints_nn (l : List Nat) : ∀ x ∈ ints l, (0 : Int) ≤ x := by
  intro x hx
  obtain ⟨y, _, rfl⟩ := List.mem_map.1 hx
  exact Int.natCast_nonneg y
theorem rd_L1_set_same {xs : List (List Int)} {i : Int} {v : List Int} (h0 : 0 ≤ i) (h : i < xs.length) : (xs.set i.toNat v).getD i.toNat [] = v := by
  rw [List.getD_eq_getElem?_getD, List.getElem?_set_self (by omega)]; rfl

theorem asg_loop {ps : List Int} (hn : ps.length ≤ 4096) (hf : Forest ps) {t : NS} (ht : visL ps (lim ps.length) (kidsOf ps (-1)) 0 (blank ps.length) = some t) (hp : t.pre ≤ 1000000) (hq : t.post ≤ 1000000) (d : Nat) :
    ∀ (i : Nat) (ch : List (List Int)), i + d = ps.length → ch.length = ps.length → (∀ v, v < ps.length → ch.getD v [] = ints (kidsTo ps (v : Int) i)) →
      Ev (fun k => treelabel_Assign.l0 k (ints (kidsTo ps (-1) i)) ps (ps.length : Int) (i : Int) ch (List.replicate ps.length z41) 0 0) (t.L.map lab41, 0, 0) := by
  induction d with
  | zero =>
    intro i ch hi hl hch
    obtain rfl : i = ps.length := by omega
    refine Ev.step (fun k => by rw [treelabel_Assign.l0]) ?_
    refine ev_neg (by omega) ?_
    have hkd : kdc ch = kd ps := by
      funext v
      unfold kdc
      by_cases hv : v < ps.length
      · rw [hch v hv, ints_nat, kidsTo_all]; rfl
      · rw [List.getD_eq_getElem?_getD, List.getElem?_eq_none (by omega)]
        show [] = kd ps v
        symm
        rw [List.eq_nil_iff_forall_not_mem]
        intro c hc
        have h1 := mem_kd.1 hc
        have h2 := hf.rng (c : Int) (by omega) (by omega)
        omega
    refine Ev.of (fun k => treelabel_Assign.l1_mono k _ _ _ _ _ _ _) (k := ps.length) ?_
    unfold treelabel_Assign.l1
    have hmem : ∀ c ∈ ch, ∃ v, v < ps.length ∧ c = ints (kidsTo ps (v : Int) ps.length) := by
      intro c hc
      obtain ⟨v, hv, rfl⟩ := List.getElem_of_mem hc
      refine ⟨v, by omega, ?_⟩
      rw [← hch v (by omega), List.getD_eq_getElem?_getD, List.getElem?_eq_getElem hv]; rfl
    rw [if_pos ⟨fun c hc x hx => by
        obtain ⟨v, _, rfl⟩ := hmem c hc
        exact ints_nn _ x hx, ints_nn _, by rw [hl, List.length_replicate], by rw [List.length_replicate]; omega, fun c hc => by
        obtain ⟨v, _, rfl⟩ := hmem c hc
        have := kidsTo_len ps (v : Int) ps.length
        simp only [ints, List.length_map]; omega, by
        have := kidsTo_len ps (-1) ps.length
        simp only [ints, List.length_map]; omega⟩]
    rw [ints_nat, kidsTo_all, hkd, List.length_replicate]
    have ht' : (kidsOf ps (-1)).foldlM (fun s c => vis (kd ps) (lim ps.length) c 0 s) (blank ps.length) = some t := ht
    rw [ht']
    simp only
    rw [if_pos ⟨hp, hq⟩]
  | succ d ih =>
    intro i ch hi hl hch
    have hlt : (i : Int) < ps.length := by omega
    have hr := hf.rng (i : Int) (by omega) hlt
    have hg : ps.getD i 0 = rdi ps (i : Int) := (rdi_nat ps i).symm
    refine Ev.step (fun k => by rw [treelabel_Assign.l0]) ?_
    refine ev_pos hlt (ev_pos (by omega) (ev_pos hlt ?_))
    by_cases hneg : rdi ps (i : Int) < 0
    · have hm1 : rdi ps (i : Int) = -1 := by omega
      refine ev_pos hneg (ev_pos ?_ ?_)
      · have := kidsTo_len ps (-1) i
        simp only [ints, List.length_map]; omega
      · have h1 := ih (i + 1) ch (by omega) hl (fun v hv => by rw [kidsTo_miss (by rw [hg]; omega)]; exact hch v hv)
        rw [kidsTo_hit (by rw [hg]; exact hm1)] at h1
        rw [wrap_up i (by omega)]
        have e : ints (kidsTo ps (-1) i) ++ [(i : Int)] = ints (kidsTo ps (-1) i ++ [i]) := by simp [ints]
        rw [e]; exact h1
    · have h0 : 0 ≤ rdi ps (i : Int) := by omega
      obtain ⟨q, hq'⟩ : ∃ q : Nat, rdi ps (i : Int) = (q : Int) := ⟨(rdi ps (i : Int)).toNat, by omega⟩
      have hqn : q < ps.length := by omega
      have hrow : rd_L1 ch (rdi ps (i : Int)) = ints (kidsTo ps (q : Int) i) := by
        unfold rd_L1
        rw [hq', Int.toNat_natCast]; exact hch q hqn
      refine ev_neg hneg (ev_pos h0 (ev_pos (by show rdi ps (i : Int) < (ch.length : Int); omega) (ev_pos ?_ ?_)))
      · show (rd_L1 ch (rdi ps (i : Int))).length < 17592186044416
        rw [hrow]
        have := kidsTo_len ps (q : Int) i
        simp only [ints, List.length_map]; omega
      · have h1 := ih (i + 1) (ch.set q (ints (kidsTo ps (q : Int) i) ++ [(i : Int)])) (by omega) (by rw [List.length_set]; exact hl) (fun v hv => by
          by_cases e : v = q
          · subst e
            rw [List.getD_eq_getElem?_getD, List.getElem?_set_self (by omega), kidsTo_hit (by rw [hg]; exact hq')]
            simp [ints]
          · rw [List.getD_eq_getElem?_getD, List.getElem?_set_ne (by omega), ← List.getD_eq_getElem?_getD, kidsTo_miss (by rw [hg]; omega)]
            exact hch v hv)
        rw [kidsTo_miss (by rw [hg]; omega)] at h1
        rw [wrap_up i (by omega)]
        show Ev (fun k => treelabel_Assign.l0 k (ints (kidsTo ps (-1) i)) ps (ps.length : Int) ((i + 1 : Nat) : Int) (ch.set (rdi ps (i : Int)).toNat (rd_L1 ch (rdi ps (i : Int)) ++ [(i : Int)])) (List.replicate ps.length z41) 0 0) (t.L.map lab41, 0, 0)
        rw [hrow, hq', Int.toNat_natCast]
        exact h1
/-- treelabel.Assign. -/
theorem asg_ev (ps : List Int) : ∃ r L, ChkR ps r ∧ (r.2 = 0 → HasNum ps L) ∧ (r.2 ≠ 0 → L = []) ∧ Ev (fun k => treelabel_Assign.f k ps) (L.map lab41, r.1, r.2) := by
  obtain ⟨r, hc, he⟩ := check_ev ps
  rcases hc.cases with ⟨h0, h1, hn, hf⟩ | ⟨h0, _⟩
  · obtain ⟨t, ht, hp, hq, _, hL⟩ := num_ev hn hf
    refine ⟨r, t.L, hc, fun _ => hL, fun h => absurd h0 h, ?_⟩
    refine Ev.bind he (ev_pos h0 (ev_pos (by omega) (ev_pos (by omega) ?_)))
    have h2 := asg_loop hn hf ht hp hq ps.length 0 (List.replicate ps.length []) (by omega) (by rw [List.length_replicate]) (fun v hv => by
      rw [List.getD_eq_getElem?_getD, List.getElem?_replicate, if_pos hv]; rfl)
    rw [h0, h1, Int.toNat_natCast]
    exact h2
  · refine ⟨r, [], hc, fun h => absurd h h0, fun _ => rfl, ?_⟩
    exact Ev.bind he (ev_neg h0 (Ev.now _))
end Go.Proofs.Ythjcmodhleoocaa.Q
/- ParentsEv -/
namespace Go.Proofs.Ythjcmodhleoocaa.Q
open Go.RowKit Go.Proofs.YthjcmodhleoocaaW.PrintWords Go.Proofs.YthjcmodhleoocaaW.PrintLast
open Go.Proofs.Ythjcmodhleoocaa.TP

/-- The answer of Parents: (parents, error), where some lists of parents have these labels. -/
structure PRes (n : Nat) (IsLab : List Int → Prop) (r : List Int × Int) : Prop where
  big : 4096 < n → r = ([], 2)
  small : n ≤ 4096 → (r.2 = 0 ∧ IsLab r.1) ∨ r = ([], 9)
  found : n ≤ 4096 → ∀ q, IsLab q → r = (q, 0)
theorem PRes.uniq {n : Nat} {IsLab : List Int → Prop} {r r' : List Int × Int} (h : PRes n IsLab r) (h' : PRes n IsLab r') : r = r' := by
  by_cases hn : 4096 < n
  · rw [h.big hn, h'.big hn]
  · have hn' : n ≤ 4096 := by omega
    rcases h.small hn' with ⟨h0, hl⟩ | h0
    · rw [h'.found hn' _ hl]
      exact Prod.ext rfl h0
    · rcases h'.small hn' with ⟨h1, hl⟩ | h1
      · rw [h.found hn' _ hl]
        exact Prod.ext rfl h1.symm
      · rw [h0, h1]
/-- These labels are those of q. -/
def IsLab (q : List Int) (L : List Lab) : Prop := q.length ≤ 4096 ∧ Forest q ∧ HasNum q L
theorem IsLab.lab {q : List Int} {L : List Lab} (h : IsLab q L) : LabOf q L := h.2.2.lab h.1 h.2.1
/-- An injective map of the first n numbers into themselves meets each. -/
theorem inj_onto {n : Nat} {f : Nat → Nat} (hf : ∀ i, i < n → f i < n) (hi : ∀ i j, i < n → j < n → f i = f j → i = j) {v : Nat} (hv : v < n) : ∃ i, i < n ∧ f i = v := by
  by_cases h : ∃ i, i < n ∧ f i = v
  · exact h
  · exfalso
    have hne : ∀ i, i < n → f i ≠ v := fun i hi' e => h ⟨i, hi', e⟩
    have := inj_le n (n - 1) (fun i => if v < f i then f i - 1 else f i) (fun i hi' => by
      have := hf i hi'; have := hne i hi'
      show (if v < f i then f i - 1 else f i) < n - 1
      split <;> omega) (fun i j hi' hj e => by
      have h1 := hne i hi'; have h2 := hne j hj
      refine hi i j hi' hj ?_
      have e' : (if v < f i then f i - 1 else f i) = (if v < f j then f j - 1 else f j) := e
      split at e' <;> split at e' <;> omega)
    omega
/-- A parent is an ancestor of the node before: the ways of a preorder. -/
theorem par_sub_prev {q : List Int} {L : List Lab} (hf : Forest q) (hL : LabOf q L) {v w p : Nat} {lv lw lp : Lab} (hv : L[v]? = some lv) (hw : L[w]? = some lw) (hp : L[p]? = some lp) (hvw : lv.pre + 1 = lw.pre) (hpar : rdi q (w : Int) = (p : Int)) : Sub q p v := by
  have hlt : ∀ x l, L[x]? = some l → x < q.length := fun x l h => by have := (List.getElem?_eq_some_iff.1 h).1; have := hL.len; omega
  have hpw : Sub q p w := ⟨1, by rw [up_succ, stp_nn (by omega), hpar]; rfl⟩
  have hne : p ≠ w := fun e => by
    subst e
    exact no_loop hf (hlt _ _ hw) (m := 1) (by omega) (by rw [up_succ, stp_nn (by omega), hpar]; rfl)
  obtain ⟨a, b, ha, hb, hord⟩ := hL.ord p w (hlt _ _ hp) (hlt _ _ hw) hne
  rw [hp] at ha; rw [hw] at hb
  obtain rfl := Option.some.inj ha
  obtain rfl := Option.some.inj hb
  have h1 : lp.pre < lw.pre ∧ lw.post < lp.post := by
    rcases hord with h | h | h
    · exact h.2
    · exact absurd (Sub.anti hf (hlt _ _ hp) hpw h.1) hne
    · exact absurd hpw h.1
  by_cases hpv : p = v
  · subst hpv; exact Sub.refl _ _
  · obtain ⟨a, b, ha, hb, hord2⟩ := hL.ord p v (hlt _ _ hp) (hlt _ _ hv) hpv
    rw [hp] at ha; rw [hv] at hb
    obtain rfl := Option.some.inj ha
    obtain rfl := Option.some.inj hb
    have hvw' : v ≠ w := fun e => by subst e; rw [hv] at hw; obtain rfl := Option.some.inj hw; omega
    obtain ⟨a, b, ha, hb, hord3⟩ := hL.ord v w (hlt _ _ hv) (hlt _ _ hw) hvw'
    rw [hv] at ha; rw [hw] at hb
    obtain rfl := Option.some.inj ha
    obtain rfl := Option.some.inj hb
    rcases hord2 with h | h | h
    · exact h.1
    · exfalso
      -- v above p: then its number is less than p's
      have : lp.pre < lv.pre ∨ lp.pre = lv.pre := by omega
      omega
    · exfalso
      have h2 : lp.pre < lv.pre ∧ lp.post < lv.post := by
        rcases h.2.2 with h3 | h3
        · exact h3
        · omega
      rcases hord3 with h3 | h3 | h3
      · -- v above w: so above p
        obtain ⟨m, hm⟩ := h3.1
        cases m with
        | zero => have : (w : Int) = (v : Int) := hm; omega
        | succ m =>
          rw [up_succ, stp_nn (by omega), hpar] at hm
          have hvp : Sub q v p := ⟨m, hm⟩
          exact h.2.1 hvp
      · omega
      · rcases h3.2.2 with h4 | h4 <;> omega
/-- A proper ancestor has the lesser number in preorder, the greater in postorder. -/
theorem lab_above {q : List Int} {L : List Lab} (hf : Forest q) (hL : LabOf q L) {x w : Nat} {lx lw : Lab} (hx : L[x]? = some lx) (hw : L[w]? = some lw) (h : Sub q x w) (hne : x ≠ w) : lx.pre < lw.pre ∧ lw.post < lx.post := by
  have hlt : ∀ x l, L[x]? = some l → x < q.length := fun x l h => by have := (List.getElem?_eq_some_iff.1 h).1; have := hL.len; omega
  obtain ⟨a, b, ha, hb, hord⟩ := hL.ord x w (hlt _ _ hx) (hlt _ _ hw) hne
  rw [hx] at ha; rw [hw] at hb
  obtain rfl := Option.some.inj ha
  obtain rfl := Option.some.inj hb
  rcases hord with h1 | h1 | h1
  · exact h1.2
  · exact absurd (Sub.anti hf (hlt _ _ hx) h h1.1) hne
  · exact absurd h h1.1
/-- And so it is told by the numbers. -/
theorem lab_above_iff {q : List Int} {L : List Lab} (hf : Forest q) (hL : LabOf q L) {x w : Nat} {lx lw : Lab} (hx : L[x]? = some lx) (hw : L[w]? = some lw) : (Sub q x w ∧ x ≠ w) ↔ (lx.pre < lw.pre ∧ lw.post < lx.post) := by
  have hlt : ∀ x l, L[x]? = some l → x < q.length := fun x l h => by have := (List.getElem?_eq_some_iff.1 h).1; have := hL.len; omega
  refine ⟨fun h => lab_above hf hL hx hw h.1 h.2, fun h => ?_⟩
  have hne : x ≠ w := fun e => by subst e; rw [hx] at hw; obtain rfl := Option.some.inj hw; omega
  obtain ⟨a, b, ha, hb, hord⟩ := hL.ord x w (hlt _ _ hx) (hlt _ _ hw) hne
  rw [hx] at ha; rw [hw] at hb
  obtain rfl := Option.some.inj ha
  obtain rfl := Option.some.inj hb
  rcases hord with h1 | h1 | h1
  · exact ⟨h1.1, hne⟩
  · omega
  · rcases h1.2.2 with h2 | h2 <;> omega
theorem lab_pre_inj {q : List Int} {L : List Lab} (hL : LabOf q L) {x w : Nat} {lx lw : Lab} (hx : L[x]? = some lx) (hw : L[w]? = some lw) (h : lx.pre = lw.pre) : x = w := by
  have hlt : ∀ x l, L[x]? = some l → x < q.length := fun x l h => by have := (List.getElem?_eq_some_iff.1 h).1; have := hL.len; omega
  by_cases hne : x = w
  · exact hne
  · exfalso
    obtain ⟨a, b, ha, hb, hord⟩ := hL.ord x w (hlt _ _ hx) (hlt _ _ hw) hne
    rw [hx] at ha; rw [hw] at hb
    obtain rfl := Option.some.inj ha
    obtain rfl := Option.some.inj hb
    rcases hord with h1 | h1 | h1
    · omega
    · omega
    · rcases h1.2.2 with h2 | h2 <;> omega
/-- An ancestor other than the node itself is the parent or above it. -/
theorem sub_par {q : List Int} {x w : Nat} (h : Sub q x w) (hne : x ≠ w) : 0 ≤ rdi q (w : Int) ∧ ∃ p : Nat, rdi q (w : Int) = (p : Int) ∧ Sub q x p := by
  obtain ⟨m, hm⟩ := h
  cases m with
  | zero => exact absurd (show x = w by have : (w : Int) = (x : Int) := hm; omega) hne
  | succ m =>
    rw [up_succ, stp_nn (by omega)] at hm
    have h0 : 0 ≤ rdi q (w : Int) := by
      rcases Int.lt_or_le (rdi q (w : Int)) 0 with h | h
      · rw [up_neg _ h] at hm; omega
      · exact h
    exact ⟨h0, (rdi q (w : Int)).toNat, by omega, m, by rw [Int.toNat_of_nonneg h0]; exact hm⟩

section
variable {Ll : List S41}
/-- The labels that were handed in are those of q. -/
def IsL (Ll : List S41) (q : List Int) : Prop := ∃ Lb, IsLab q Lb ∧ Ll = Lb.map lab41
theorem rd41 {Lb : List Lab} {j : Nat} {l : Lab} (h : Lb[j]? = some l) : rd_T41 (Lb.map lab41) (j : Int) = lab41 l := by
  unfold rd_T41
  rw [Int.toNat_natCast, List.getD_eq_getElem?_getD, List.getElem?_map, h]; rfl
theorem IsL.len {q : List Int} (h : IsL Ll q) : Ll.length = q.length ∧ q.length ≤ 4096 := by
  obtain ⟨Lb, hq, rfl⟩ := h
  exact ⟨by rw [List.length_map, hq.lab.len], hq.1⟩
theorem rd_T41_get {xs : List S41} {i : Nat} (h : i < xs.length) : rd_T41 xs (i : Int) = xs[i] := by
  unfold rd_T41
  rw [Int.toNat_natCast, List.getD_eq_getElem?_getD, List.getElem?_eq_getElem h]; rfl
theorem s41_test (a b : S41) : (!(a.f0 == b.f0) || (!(a.f1 == b.f1) || (!(a.f2 == b.f2)))) = true ↔ a ≠ b := by
  obtain ⟨a0, a1, a2⟩ := a
  obtain ⟨b0, b1, b2⟩ := b
  simp only [Bool.or_eq_true, Bool.not_eq_true', beq_eq_false_iff_ne, ne_eq, S41.mk.injEq]
  by_cases h0 : a0 = b0
  · by_cases h1 : a1 = b1
    · by_cases h2 : a2 = b2
      · simp [h0, h1, h2]
      · simp [h0, h1, h2]
    · simp [h0, h1]
  · simp [h0]
/-- The comparison of the labels found again. -/
theorem par_cmp {again : List S41} {par : List Int} (hn : Ll.length ≤ 4096) (hl : again.length = Ll.length) (d : Nat) : ∀ i : Nat, i + d = Ll.length → (∀ j, j < i → again[j]? = Ll[j]?) →
    ∃ r, ((r = (par, 0) ∧ again = Ll) ∨ (r = ([], 9) ∧ again ≠ Ll)) ∧ Ev (fun k => treelabel_Parents.l3 k Ll par again (again.length : Int) (i : Int)) r := by
  induction d with
  | zero =>
    intro i hi hj
    refine ⟨(par, 0), .inl ⟨rfl, ?_⟩, ?_⟩
    · refine List.ext_getElem? (fun j => ?_)
      rcases Nat.lt_or_ge j i with h | h
      · exact hj j h
      · rw [List.getElem?_eq_none (by omega), List.getElem?_eq_none (by omega)]
    · refine Ev.step (fun k => by rw [treelabel_Parents.l3]) ?_
      exact ev_neg (by omega) (Ev.now _)
  | succ d ih =>
    intro i hi hj
    have h1 : i < again.length := by omega
    have h2 : i < Ll.length := by omega
    by_cases e : again[i] = Ll[i]
    · obtain ⟨r, hr, he⟩ := ih (i + 1) (by omega) (fun j hji => by
        rcases Nat.lt_or_ge j i with h | h
        · exact hj j h
        · obtain rfl : j = i := by omega
          rw [List.getElem?_eq_getElem h1, List.getElem?_eq_getElem h2, e])
      refine ⟨r, hr, ?_⟩
      refine Ev.step (fun k => by rw [treelabel_Parents.l3]) ?_
      refine ev_pos (by omega) (ev_pos (by omega) (ev_pos (by omega) (ev_pos (by omega) (ev_neg ?_ ?_))))
      · rw [rd_T41_get h1, rd_T41_get h2, s41_test]; exact fun h => h e
      · rw [wrap_up i (by omega)]; exact he
    · refine ⟨([], 9), .inr ⟨rfl, fun h => e (by subst h; rfl)⟩, ?_⟩
      refine Ev.step (fun k => by rw [treelabel_Parents.l3]) ?_
      refine ev_pos (by omega) (ev_pos (by omega) (ev_pos (by omega) (ev_pos (by omega) (ev_pos ?_ (Ev.now _)))))
      rw [rd_T41_get h1, rd_T41_get h2, s41_test]; exact e
/-- What stands behind the loops: the candidate is numbered again, and compared. -/
theorem par_fin {par : List Int} (hn : Ll.length ≤ 4096) (hl : par.length = Ll.length) :
    ∃ r, ((r.2 = 0 ∧ IsL Ll r.1) ∨ r = ([], 9)) ∧ (IsL Ll par → r = (par, 0)) ∧
      Ev (fun k => (treelabel_Assign.f k par).bind fun bt172 => (if bt172.2.2 = 0 then (treelabel_Parents.l3 k Ll par bt172.1 (bt172.1.length : Int) 0) else (some (([] : List Int), 9)))) r := by
  obtain ⟨r0, L0, hc, h1, h2, he⟩ := asg_ev par
  rcases hc.cases with ⟨h0, _, hn0, hf⟩ | ⟨h0, hnf⟩
  · have hL0 := h1 h0
    have hlen : (L0.map lab41).length = Ll.length := by rw [List.length_map, (hL0.lab hn0 hf).len, hl]
    obtain ⟨r, hr, he2⟩ := par_cmp (Ll := Ll) (again := L0.map lab41) (par := par) hn hlen Ll.length 0 (by omega) (fun j hj => absurd hj (Nat.not_lt_zero _))
    refine ⟨r, ?_, fun hq => ?_, Ev.bind he (ev_pos h0 he2)⟩
    · rcases hr with ⟨rfl, e⟩ | ⟨rfl, _⟩
      · exact .inl ⟨rfl, L0, ⟨hn0, hf, hL0⟩, e.symm⟩
      · exact .inr rfl
    · rcases hr with ⟨rfl, e⟩ | ⟨rfl, e⟩
      · rfl
      · obtain ⟨Lb, hq1, hq2⟩ := hq
        rw [hq2, hL0.uniq hq1.2.2] at e
        exact absurd rfl e
  · refine ⟨([], 9), .inr rfl, fun hq => ?_, Ev.bind he (ev_neg h0 (Ev.now _))⟩
    obtain ⟨Lb, hq1, _⟩ := hq
    exact absurd ⟨hq1.1, hq1.2.1⟩ hnf

/-- What is known of the stack and of the parents found, where the labels are those of q. -/
structure CInv (q : List Int) (Lb : List Lab) (t : Nat) (par : List Int) (S : List Nat) : Prop where
  done : ∀ (x : Nat) (l : Lab), Lb[x]? = some l → l.pre < t → rd par (x : Int) = rdi q (x : Int)
  first : t = 0 → S = []
  prev : ∀ (v : Nat) (l : Lab), Lb[v]? = some l → l.pre + 1 = t → ∀ y, y < q.length → (y ∈ S ↔ Sub q y v)
  pw : List.Pairwise (Sub q) S
/-- The same within the inner loop, before node w. -/
structure WInv (q : List Int) (Lb : List Lab) (t : Nat) (S : List Nat) (w : Nat) : Prop where
  low : ∀ y, y ∈ S → ∃ l, Lb[y]? = some l ∧ l.pre < t
  pw : List.Pairwise (Sub q) S
  has : ∀ y, y < q.length → Sub q y w → y ≠ w → y ∈ S
theorem winv_start {q : List Int} {Lb : List Lab} {t : Nat} {par : List Int} {S : List Nat} {w : Nat} {lw : Lab} (hf : Forest q) (hL : LabOf q Lb) (h : CInv q Lb t par S) (hS : ∀ y, y ∈ S → y < q.length) (hw : Lb[w]? = some lw) (hwt : lw.pre = t) : WInv q Lb t S w := by
  have hlt : ∀ x l, Lb[x]? = some l → x < q.length := fun x l h => by have := (List.getElem?_eq_some_iff.1 h).1; have := hL.len; omega
  have hget : ∀ x, x < q.length → ∃ l, Lb[x]? = some l := fun x hx => ⟨_, List.getElem?_eq_getElem (by rw [hL.len]; exact hx)⟩
  rcases Nat.eq_zero_or_pos t with h0 | h0
  · have hS0 := h.first h0
    subst hS0
    refine ⟨fun y hy => (by cases hy), List.Pairwise.nil, fun y hy hs hne => ?_⟩
    obtain ⟨ly, hly⟩ := hget y hy
    have := lab_above hf hL hly hw hs hne
    omega
  · obtain ⟨v, lv, hv, hvp⟩ := hL.onto (t - 1) (by have := hL.rng w lw hw; omega)
    have hprev := h.prev v lv hv (by omega)
    refine ⟨fun y hy => ?_, h.pw, fun y hy hs hne => ?_⟩
    · have hyv := (hprev y (hS y hy)).1 hy
      obtain ⟨ly, hly⟩ := hget y (hS y hy)
      refine ⟨ly, hly, ?_⟩
      by_cases e : y = v
      · subst e; rw [hv] at hly; obtain rfl := Option.some.inj hly; omega
      · have := lab_above hf hL hly hv hyv e; omega
    · obtain ⟨_, p, hp, hyp⟩ := sub_par hs hne
      have hr := hf.rng (w : Int) (by omega) (by have := hlt w lw hw; omega)
      obtain ⟨lp, hlp⟩ := hget p (by omega)
      have hpv := par_sub_prev hf hL hv hw hlp (by omega) hp
      exact (hprev y hy).2 (hyp.trans hpv)
/-- The node at the top of the stack is the parent, once its number in postorder is the greater one. -/
theorem winv_top {q : List Int} {Lb : List Lab} {t : Nat} {S : List Nat} {x w : Nat} {lx lw : Lab} (hf : Forest q) (hL : LabOf q Lb) (h : WInv q Lb t (S ++ [x]) w) (hx : Lb[x]? = some lx) (hw : Lb[w]? = some lw) (hwt : lw.pre = t) (hpost : ¬ lx.post < lw.post) : rdi q (w : Int) = (x : Int) := by
  have hlt : ∀ x l, Lb[x]? = some l → x < q.length := fun x l h => by have := (List.getElem?_eq_some_iff.1 h).1; have := hL.len; omega
  obtain ⟨l, hl, hpre⟩ := h.low x (by simp)
  rw [hx] at hl; obtain rfl := Option.some.inj hl
  have hne : x ≠ w := fun e => by subst e; rw [hx] at hw; obtain rfl := Option.some.inj hw; omega
  obtain ⟨a, b, ha, hb, hord⟩ := hL.ord x w (hlt _ _ hx) (hlt _ _ hw) hne
  rw [hx] at ha; rw [hw] at hb
  obtain rfl := Option.some.inj ha
  obtain rfl := Option.some.inj hb
  have hsub : Sub q x w := by
    rcases hord with h1 | h1 | h1
    · exact h1.1
    · omega
    · rcases h1.2.2 with h2 | h2 <;> omega
  obtain ⟨h0, p, hp, hxp⟩ := sub_par hsub hne
  have hr := hf.rng (w : Int) (by omega) (by have := hlt w lw hw; omega)
  have hpw : Sub q p w := ⟨1, by rw [up_succ, stp_nn (by omega), hp]; rfl⟩
  have hpne : p ≠ w := fun e => no_loop hf (hlt w lw hw) (m := 1) (by omega) (by rw [up_succ, stp_nn (by omega), hp, e]; rfl)
  have hmem := h.has p (by omega) hpw hpne
  rcases List.mem_append.1 hmem with h1 | h1
  · have hpx : Sub q p x := (List.pairwise_append.1 h.pw).2.2 p h1 x (by simp)
    have := Sub.anti hf (hlt _ _ hx) hxp hpx
    rw [hp, this]
  · rw [List.mem_singleton.1 h1] at hp; exact hp
theorem winv_pop {q : List Int} {Lb : List Lab} {t : Nat} {S : List Nat} {x w : Nat} {lx lw : Lab} (hf : Forest q) (hL : LabOf q Lb) (h : WInv q Lb t (S ++ [x]) w) (hx : Lb[x]? = some lx) (hw : Lb[w]? = some lw) (hpost : lx.post < lw.post) : WInv q Lb t S w := by
  refine ⟨fun y hy => h.low y (List.mem_append_left _ hy), (List.pairwise_append.1 h.pw).1, fun y hy hs hne => ?_⟩
  rcases List.mem_append.1 (h.has y hy hs hne) with h1 | h1
  · exact h1
  · exfalso
    rw [List.mem_singleton.1 h1] at hs hne
    have := lab_above hf hL hx hw hs hne
    omega
/-- The next node's state. -/
theorem cinv_next {q : List Int} {Lb : List Lab} {t : Nat} {par par' : List Int} {S : List Nat} {w : Nat} {lw : Lab} (hf : Forest q) (hL : LabOf q Lb) (h : WInv q Lb t S w) (hdone : ∀ (x : Nat) (l : Lab), Lb[x]? = some l → l.pre < t → rd par (x : Int) = rdi q (x : Int)) (hw : Lb[w]? = some lw) (hwt : lw.pre = t)
    (hpar : rd par' (w : Int) = rdi q (w : Int)) (hold : ∀ x : Nat, x ≠ w → rd par' (x : Int) = rd par (x : Int)) (htop : (S = [] ) ∨ ∃ (S' : List Nat) (x : Nat), S = S' ++ [x] ∧ rdi q (w : Int) = (x : Int)) : CInv q Lb (t + 1) par' (S ++ [w]) := by
  have hlt : ∀ x l, Lb[x]? = some l → x < q.length := fun x l h => by have := (List.getElem?_eq_some_iff.1 h).1; have := hL.len; omega
  have hsubw : ∀ y, y ∈ S → Sub q y w := by
    intro y hy
    rcases htop with h0 | ⟨S', x, h0, hp⟩
    · rw [h0] at hy; cases hy
    · have hxw : Sub q x w := ⟨1, by rw [up_succ, stp_nn (by omega), hp]; rfl⟩
      rw [h0] at hy
      rcases List.mem_append.1 hy with h1 | h1
      · have hpw := h.pw
        rw [h0] at hpw
        exact ((List.pairwise_append.1 hpw).2.2 y h1 x (by simp)).trans hxw
      · rw [List.mem_singleton.1 h1]; exact hxw
  refine ⟨fun x l hx hlp => ?_, fun h0 => by omega, fun v l hv hvp y hy => ?_, ?_⟩
  · by_cases e : x = w
    · subst e; exact hpar
    · rw [hold x e]
      refine hdone x l hx ?_
      rcases Nat.lt_or_ge l.pre t with h1 | h1
      · exact h1
      · exact absurd (lab_pre_inj hL hx hw (by omega)) e
  · have hvw : v = w := lab_pre_inj hL hv hw (by omega)
    subst hvw
    constructor
    · intro hm
      rcases List.mem_append.1 hm with h1 | h1
      · exact hsubw y h1
      · rw [List.mem_singleton.1 h1]; exact Sub.refl _ _
    · intro hs
      by_cases e : y = v
      · rw [e]; simp
      · exact List.mem_append_left _ (h.has y hy hs e)
  · refine List.pairwise_append.2 ⟨h.pw, List.pairwise_singleton _ _, fun y hy z hz => ?_⟩
    rw [List.mem_singleton.1 hz]; exact hsubw y hy
end

section
variable {Ll : List S41}
theorem ints_len (S : List Nat) : (ints S).length = S.length := by simp [ints]
theorem ints_snoc (S : List Nat) (x : Nat) : ints (S ++ [x]) = ints S ++ [(x : Int)] := by simp [ints]
/-- The loop over the nodes in preorder, and the loop that strikes from the stack. -/
theorem par_loop {order : List Int} (hn : Ll.length ≤ 4096) (hol : order.length = Ll.length) (hord : ∀ v : Nat, v < Ll.length → ∃ j : Nat, j < Ll.length ∧ (rd_T41 Ll (j : Int)).f0 = (v : Int) ∧ rd order (v : Int) = (j : Int) + 1) (d : Nat) :
    ∀ (t : Nat) (par : List Int) (S : List Nat), t + d = Ll.length → par.length = Ll.length → (∀ y, y ∈ S → y < Ll.length) → S.length ≤ t → (∀ q Lb, IsLab q Lb → Ll = Lb.map lab41 → CInv q Lb t par S) →
      ∃ r, ((r.2 = 0 ∧ IsL Ll r.1) ∨ r = ([], 9)) ∧ (∀ q, IsL Ll q → r = (q, 0)) ∧ Ev (fun k => treelabel_Parents.l1 k Ll par (ints S) order (order.length : Int) (t : Int)) r := by
  induction d with
  | zero =>
    intro t par S ht hpl hS hSt hc
    obtain ⟨r, h1, h2, he⟩ := par_fin (Ll := Ll) hn hpl
    refine ⟨r, h1, fun q hq => ?_, ?_⟩
    · have hpar : par = q := by
        obtain ⟨hl1, hl2⟩ := hq.len
        obtain ⟨Lb, hq1, hq2⟩ := hq
        have hL := hq1.lab
        have hdone := (hc q Lb hq1 hq2).done
        refine List.ext_getElem? (fun j => ?_)
        rcases Nat.lt_or_ge j Ll.length with h | h
        · obtain ⟨l, hl⟩ : ∃ l, Lb[j]? = some l := ⟨_, List.getElem?_eq_getElem (by rw [hL.len]; omega)⟩
          have h3 := hdone j l hl (by have := hL.rng j l hl; omega)
          rw [rd_rdi, rdi_nat, rdi_nat, List.getD_eq_getElem?_getD, List.getD_eq_getElem?_getD, List.getElem?_eq_getElem (by omega), List.getElem?_eq_getElem (by omega)] at h3
          rw [List.getElem?_eq_getElem (by omega), List.getElem?_eq_getElem (by omega)]
          exact congrArg some h3
        · rw [List.getElem?_eq_none (by omega), List.getElem?_eq_none (by omega)]
      rw [h2 (hpar ▸ hq), hpar]
    · refine Ev.step (fun k => by rw [treelabel_Parents.l1]) ?_
      exact ev_neg (by omega) he
  | succ d ih =>
    intro t par S ht hpl hS hSt hc
    obtain ⟨w, hw, hpre, hrd⟩ := hord t (by omega)
    have hwr : wrap64 (rd order (t : Int) - 1) = (w : Int) := by rw [hrd, wrap_in _ (by omega) (by omega)]; omega
    -- the inner loop
    have inner : ∀ (m : Nat) (S : List Nat), S.length = m → (∀ y, y ∈ S → y < Ll.length) → S.length ≤ t → (∀ q Lb, IsLab q Lb → Ll = Lb.map lab41 → WInv q Lb t S w ∧ (∀ (x : Nat) (l : Lab), Lb[x]? = some l → l.pre < t → rd par (x : Int) = rdi q (x : Int))) →
        ∃ r, ((r.2 = 0 ∧ IsL Ll r.1) ∨ r = ([], 9)) ∧ (∀ q, IsL Ll q → r = (q, 0)) ∧ Ev (fun k => treelabel_Parents.l2 k Ll par (ints S) (w : Int) order (order.length : Int) (t : Int)) r := by
      intro m
      induction m with
      | zero =>
        intro S hm hS hSt hwi
        have hS0 : S = [] := List.eq_nil_of_length_eq_zero hm
        subst hS0
        obtain ⟨r, h1, h2, he⟩ := ih (t + 1) (par.set w (-1)) [w] (by omega) (by rw [List.length_set]; exact hpl) (fun y hy => by rw [List.mem_singleton.1 hy]; exact hw) (by simp) (fun q Lb hq1 hq2 => by
          obtain ⟨hwv, hdone⟩ := hwi q Lb hq1 hq2
          have hL := hq1.lab
          have hlq : Ll.length = q.length := by rw [hq2, List.length_map, hL.len]
          obtain ⟨lw, hlw⟩ : ∃ l, Lb[w]? = some l := ⟨_, List.getElem?_eq_getElem (by rw [hL.len]; omega)⟩
          have hwt : lw.pre = t := by rw [hq2, rd41 hlw] at hpre; exact Int.ofNat_inj.1 hpre
          refine cinv_next (S := []) hq1.2.1 hL hwv hdone hlw hwt ?_ (fun x hx => ?_) (.inl rfl)
          · have hs : rd (par.set w (-1)) (w : Int) = -1 := by
              have := rd_set_same (xs := par) (i := (w : Int)) (v := -1) (by omega) (by omega)
              rwa [Int.toNat_natCast] at this
            rw [hs]
            have hr := hq1.2.1.rng (w : Int) (by omega) (by omega)
            rcases Int.lt_or_le (rdi q (w : Int)) 0 with h | h
            · omega
            · exfalso
              have hp : rdi q (w : Int) = ((rdi q (w : Int)).toNat : Int) := by omega
              have hpw : Sub q (rdi q (w : Int)).toNat w := ⟨1, by rw [up_succ, stp_nn (by omega)]; exact hp⟩
              have hne : (rdi q (w : Int)).toNat ≠ w := fun e => no_loop hq1.2.1 (by omega : w < q.length) (m := 1) (by omega) (by rw [up_succ, stp_nn (by omega)]; show rdi q (w : Int) = (w : Int); omega)
              have := hwv.has _ (by omega) hpw hne
              cases this
          · have := rd_set_ne (xs := par) (i := (w : Int)) (j := (x : Int)) (v := -1) (by omega) (by omega) (by omega)
            rwa [Int.toNat_natCast] at this)
        refine ⟨r, h1, h2, ?_⟩
        refine Ev.step (fun k => by rw [treelabel_Parents.l2]) ?_
        refine ev_neg (by rw [ints_len]; simp) (ev_pos (by omega) (ev_pos (by omega) (ev_pos (by rw [ints_len]; simp) ?_)))
        rw [wrap_up t (by omega), Int.toNat_natCast]
        exact he
      | succ m ihm =>
        intro S hm hS hSt hwi
        obtain ⟨S', x, rfl⟩ : ∃ S' x, S = S' ++ [x] := by
          rcases List.eq_nil_or_concat S with h | ⟨S', x, h⟩
          · rw [h] at hm; simp at hm
          · exact ⟨S', x, by rw [h, List.concat_eq_append]⟩
        have hSl : S'.length = m := by simpa using hm
        have hx : x < Ll.length := hS x (by simp)
        have hil : ((ints (S' ++ [x])).length : Int) = (m : Int) + 1 := by rw [ints_len, List.length_append, hSl]; simp
        have hidx : wrap64 (((ints (S' ++ [x])).length : Int) - 1) = (m : Int) := by
          have : m ≤ 4096 := by simp at hSt; omega
          rw [hil, wrap_in _ (by omega) (by omega)]; omega
        have htop : rd (ints (S' ++ [x])) (m : Int) = (x : Int) := by
          unfold rd
          rw [Int.toNat_natCast, ints_snoc, List.getD_eq_getElem?_getD, List.getElem?_append_right (by rw [ints_len]; omega), ints_len, hSl]
          simp
        have hstep : ∀ r, Ev (fun k => (if (rd_T41 Ll (x : Int)).f1 < (rd_T41 Ll (w : Int)).f1 then (if (m : Int) ≤ ((ints (S' ++ [x])).length : Int) then (treelabel_Parents.l2 k Ll par ((ints (S' ++ [x])).take ((m : Int) : Int).toNat) (w : Int) order (order.length : Int) (t : Int)) else none) else (if (w : Int) < (par.length : Int) then (if (ints (S' ++ [x])).length < 17592186044416 then (treelabel_Parents.l1 k Ll ((par.set ((w : Int) : Int).toNat (-1)).set ((w : Int) : Int).toNat (x : Int)) (ints (S' ++ [x]) ++ [(w : Int)]) order (order.length : Int) (wrap64 ((t : Int) + 1))) else none) else none))) r →
            Ev (fun k => treelabel_Parents.l2 k Ll par (ints (S' ++ [x])) (w : Int) order (order.length : Int) (t : Int)) r := by
          intro r h
          refine Ev.step (fun k => by rw [treelabel_Parents.l2]) ?_
          refine ev_pos (by rw [hil]; omega) ?_
          rw [hidx, htop]
          exact ev_pos (by omega) (ev_pos (by rw [hil]; omega) (ev_pos (by omega) (ev_pos (by omega) (ev_pos (by omega) (ev_pos (by omega) h)))))
        by_cases hpost : (rd_T41 Ll (x : Int)).f1 < (rd_T41 Ll (w : Int)).f1
        · obtain ⟨r, h1, h2, he⟩ := ihm S' hSl (fun y hy => hS y (List.mem_append_left _ hy)) (by simp at hSt; omega) (fun q Lb hq1 hq2 => by
            obtain ⟨hwv, hdone⟩ := hwi q Lb hq1 hq2
            have hL := hq1.lab
            have hlq : Ll.length = q.length := by rw [hq2, List.length_map, hL.len]
            obtain ⟨lw, hlw⟩ : ∃ l, Lb[w]? = some l := ⟨_, List.getElem?_eq_getElem (by rw [hL.len]; omega)⟩
            obtain ⟨lx, hlx⟩ : ∃ l, Lb[x]? = some l := ⟨_, List.getElem?_eq_getElem (by rw [hL.len]; omega)⟩
            rw [hq2, rd41 hlx, rd41 hlw] at hpost
            exact ⟨winv_pop hq1.2.1 hL hwv hlx hlw (Int.ofNat_lt.1 hpost), hdone⟩)
          refine ⟨r, h1, h2, hstep r (ev_pos hpost (ev_pos (by rw [hil]; omega) ?_))⟩
          have htake : (ints (S' ++ [x])).take ((m : Int) : Int).toNat = ints S' := by
            rw [Int.toNat_natCast, ints_snoc, List.take_left' (by rw [ints_len, hSl])]
          show Ev (fun k => treelabel_Parents.l2 k Ll par ((ints (S' ++ [x])).take ((m : Int) : Int).toNat) (w : Int) order (order.length : Int) (t : Int)) r
          rw [htake]; exact he
        · obtain ⟨r, h1, h2, he⟩ := ih (t + 1) ((par.set w (-1)).set w (x : Int)) (S' ++ [x] ++ [w]) (by omega) (by rw [List.length_set, List.length_set]; exact hpl) (fun y hy => by
            rcases List.mem_append.1 hy with h | h
            · exact hS y h
            · rw [List.mem_singleton.1 h]; exact hw) (by simp at hSt ⊢; omega) (fun q Lb hq1 hq2 => by
            obtain ⟨hwv, hdone⟩ := hwi q Lb hq1 hq2
            have hL := hq1.lab
            have hlq : Ll.length = q.length := by rw [hq2, List.length_map, hL.len]
            obtain ⟨lw, hlw⟩ : ∃ l, Lb[w]? = some l := ⟨_, List.getElem?_eq_getElem (by rw [hL.len]; omega)⟩
            obtain ⟨lx, hlx⟩ : ∃ l, Lb[x]? = some l := ⟨_, List.getElem?_eq_getElem (by rw [hL.len]; omega)⟩
            have hwt : lw.pre = t := by rw [hq2, rd41 hlw] at hpre; exact Int.ofNat_inj.1 hpre
            rw [hq2, rd41 hlx, rd41 hlw] at hpost
            have hpar := winv_top hq1.2.1 hL hwv hlx hlw hwt (fun h => hpost (Int.ofNat_lt.2 h))
            refine cinv_next (S := S' ++ [x]) hq1.2.1 hL hwv hdone hlw hwt ?_ (fun z hz => ?_) (.inr ⟨S', x, rfl, hpar⟩)
            · have := rd_set_same (xs := par.set w (-1)) (i := (w : Int)) (v := (x : Int)) (by omega) (by rw [List.length_set]; omega)
              rw [Int.toNat_natCast] at this
              rw [this, hpar]
            · have h3 := rd_set_ne (xs := par.set w (-1)) (i := (w : Int)) (j := (z : Int)) (v := (x : Int)) (by omega) (by omega) (by omega)
              have h4 := rd_set_ne (xs := par) (i := (w : Int)) (j := (z : Int)) (v := -1) (by omega) (by omega) (by omega)
              rw [Int.toNat_natCast] at h3 h4
              rw [h3, h4])
          refine ⟨r, h1, h2, hstep r (ev_neg hpost (ev_pos (by omega) (ev_pos ?_ ?_)))⟩
          · rw [ints_len]; simp at hSt ⊢; omega
          · rw [wrap_up t (by omega), Int.toNat_natCast, ← ints_snoc]
            exact he
    obtain ⟨r, h1, h2, he⟩ := inner S.length S rfl hS hSt (fun q Lb hq1 hq2 => by
      have hci := hc q Lb hq1 hq2
      have hL := hq1.lab
      have hlq : Ll.length = q.length := by rw [hq2, List.length_map, hL.len]
      obtain ⟨lw, hlw⟩ : ∃ l, Lb[w]? = some l := ⟨_, List.getElem?_eq_getElem (by rw [hL.len]; omega)⟩
      have hwt : lw.pre = t := by rw [hq2, rd41 hlw] at hpre; exact Int.ofNat_inj.1 hpre
      exact ⟨winv_start hq1.2.1 hL hci (fun y hy => by rw [← hlq]; exact hS y hy) hlw hwt, hci.done⟩)
    refine ⟨r, h1, h2, ?_⟩
    refine Ev.step (fun k => by rw [treelabel_Parents.l1]) ?_
    refine ev_pos (by omega) (ev_pos (by omega) (ev_pos (by omega) ?_))
    rw [hwr]; exact he

/-- The loop that puts the nodes in the order of their first numbers. -/
theorem par_order (hn : Ll.length ≤ 4096) (d : Nat) : ∀ (i : Nat) (order : List Int), i + d = Ll.length → order.length = Ll.length →
    (∀ j : Nat, j < i → 0 ≤ (rd_T41 Ll (j : Int)).f0 ∧ (rd_T41 Ll (j : Int)).f0 < Ll.length) → (∀ a b : Nat, a < i → b < i → (rd_T41 Ll (a : Int)).f0 = (rd_T41 Ll (b : Int)).f0 → a = b) →
    (∀ v : Nat, v < Ll.length → (rd order (v : Int) = 0 ∧ ∀ j : Nat, j < i → (rd_T41 Ll (j : Int)).f0 ≠ (v : Int)) ∨ ∃ j : Nat, j < i ∧ (rd_T41 Ll (j : Int)).f0 = (v : Int) ∧ rd order (v : Int) = (j : Int) + 1) →
      ∃ r, ((r.2 = 0 ∧ IsL Ll r.1) ∨ r = ([], 9)) ∧ (∀ q, IsL Ll q → r = (q, 0)) ∧ Ev (fun k => treelabel_Parents.l0 k Ll (Ll.length : Int) order Ll (Ll.length : Int) (i : Int)) r := by
  induction d with
  | zero =>
    intro i order hi hol hrng hinj hord
    obtain rfl : i = Ll.length := by omega
    have hall : ∀ v : Nat, v < Ll.length → ∃ j : Nat, j < Ll.length ∧ (rd_T41 Ll (j : Int)).f0 = (v : Int) ∧ rd order (v : Int) = (j : Int) + 1 := by
      intro v hv
      rcases hord v hv with ⟨_, h2⟩ | h
      · exfalso
        obtain ⟨j, hj, e⟩ := inj_onto (n := Ll.length) (f := fun j => ((rd_T41 Ll (j : Int)).f0).toNat) (fun j hj => natAbs_lt (hrng j hj).1 (hrng j hj).2) (fun a b ha hb e => hinj a b ha hb (by
          have := (hrng a ha).1; have := (hrng b hb).1
          have e2 : ((rd_T41 Ll (a : Int)).f0).toNat = ((rd_T41 Ll (b : Int)).f0).toNat := e
          omega)) hv
        have e2 : ((rd_T41 Ll (j : Int)).f0).toNat = v := e
        exact h2 j hj (by have := (hrng j hj).1; omega)
      · exact h
    obtain ⟨r, h1, h2, he⟩ := par_loop hn hol hall Ll.length 0 (List.replicate Ll.length 0) [] (by omega) (by rw [List.length_replicate]) (fun y hy => by cases hy) (Nat.le_refl _) (fun q Lb _ _ => ⟨fun x l _ h => absurd h (Nat.not_lt_zero _), fun _ => rfl, fun v l _ h => by omega, List.Pairwise.nil⟩)
    refine ⟨r, h1, h2, ?_⟩
    refine Ev.step (fun k => by rw [treelabel_Parents.l0]) ?_
    refine ev_neg (by omega) (ev_pos (by omega) (ev_pos (by omega) ?_))
    rw [Int.toNat_natCast]
    exact he
  | succ d ih =>
    intro i order hi hol hrng hinj hord
    have hlt : i < Ll.length := by omega
    -- labels of a forest have first numbers that fit
    have hno : ∀ q, IsL Ll q → 0 ≤ (rd_T41 Ll (i : Int)).f0 ∧ (rd_T41 Ll (i : Int)).f0 < Ll.length ∧ ∀ j : Nat, j < i → (rd_T41 Ll (j : Int)).f0 ≠ (rd_T41 Ll (i : Int)).f0 := by
      intro q hq
      obtain ⟨hl1, _⟩ := hq.len
      obtain ⟨Lb, hq1, hq2⟩ := hq
      have hL := hq1.lab
      obtain ⟨l, hl⟩ : ∃ l, Lb[i]? = some l := ⟨_, List.getElem?_eq_getElem (by rw [hL.len]; omega)⟩
      have hr := hL.rng i l hl
      rw [hl1]
      rw [hq2, rd41 hl]
      refine ⟨Int.natCast_nonneg _, Int.ofNat_lt.2 hr.1, fun j hj => ?_⟩
      obtain ⟨l', hl'⟩ : ∃ l, Lb[j]? = some l := ⟨_, List.getElem?_eq_getElem (by rw [hL.len]; omega)⟩
      rw [rd41 hl']
      intro e
      have := lab_pre_inj hL hl' hl (Int.ofNat_inj.1 e)
      omega
    by_cases h1 : (rd_T41 Ll (i : Int)).f0 < 0
    · refine ⟨([], 9), .inr rfl, fun q hq => absurd (hno q hq).1 (by omega), ?_⟩
      refine Ev.step (fun k => by rw [treelabel_Parents.l0]) ?_
      exact ev_pos (by omega) (ev_pos (by omega) (ev_pos (by omega) (ev_pos h1 (Ev.now _))))
    · by_cases h2 : (rd_T41 Ll (i : Int)).f0 ≥ (Ll.length : Int)
      · refine ⟨([], 9), .inr rfl, fun q hq => absurd (hno q hq).2.1 (by omega), ?_⟩
        refine Ev.step (fun k => by rw [treelabel_Parents.l0]) ?_
        exact ev_pos (by omega) (ev_pos (by omega) (ev_pos (by omega) (ev_neg h1 (ev_pos h2 (Ev.now _)))))
      · obtain ⟨v, hv⟩ : ∃ v : Nat, (rd_T41 Ll (i : Int)).f0 = (v : Int) := ⟨((rd_T41 Ll (i : Int)).f0).toNat, by omega⟩
        have hvn : v < Ll.length := by omega
        rcases hord v hvn with ⟨hz, hnew⟩ | ⟨j, hj, hjv, hjo⟩
        · obtain ⟨r, h3, h4, he⟩ := ih (i + 1) (order.set v ((i : Int) + 1)) (by omega) (by rw [List.length_set]; exact hol) (fun j hj => by
            rcases Nat.lt_or_ge j i with h | h
            · exact hrng j h
            · obtain rfl : j = i := by omega
              omega) (fun a b ha hb e => by
            rcases Nat.lt_or_ge a i with h | h <;> rcases Nat.lt_or_ge b i with h' | h'
            · exact hinj a b h h' e
            · obtain rfl : b = i := by omega
              exact absurd (e.trans hv) (hnew a h)
            · obtain rfl : a = i := by omega
              exact absurd (e.symm.trans hv) (hnew b h')
            · omega) (fun u hu => by
            by_cases e : u = v
            · subst e
              right
              refine ⟨i, by omega, hv, ?_⟩
              have := rd_set_same (xs := order) (i := (u : Int)) (v := (i : Int) + 1) (by omega) (by omega)
              rwa [Int.toNat_natCast] at this
            · have hne := rd_set_ne (xs := order) (i := (v : Int)) (j := (u : Int)) (v := (i : Int) + 1) (by omega) (by omega) (by omega)
              rw [Int.toNat_natCast] at hne
              rw [hne]
              rcases hord u hu with ⟨a, b⟩ | ⟨j, a, b, c⟩
              · left
                refine ⟨a, fun j hj => ?_⟩
                rcases Nat.lt_or_ge j i with h | h
                · exact b j h
                · obtain rfl : j = i := by omega
                  rw [hv]; omega
              · exact .inr ⟨j, by omega, b, c⟩)
          refine ⟨r, h3, h4, ?_⟩
          refine Ev.step (fun k => by rw [treelabel_Parents.l0]) ?_
          refine ev_pos (by omega) (ev_pos (by omega) (ev_pos (by omega) (ev_neg h1 (ev_neg h2 (ev_pos (by omega) (ev_pos (by omega) (ev_pos (by rw [hv]; exact hz) ?_)))))))
          rw [hv, Int.toNat_natCast, wrap_up i (by omega)]
          have e1 : ((i + 1 : Nat) : Int) = (i : Int) + 1 := by omega
          rw [e1] at he ⊢
          exact he
        · refine ⟨([], 9), .inr rfl, fun q hq => absurd (hjv.trans hv.symm) ((hno q hq).2.2 j hj), ?_⟩
          refine Ev.step (fun k => by rw [treelabel_Parents.l0]) ?_
          exact ev_pos (by omega) (ev_pos (by omega) (ev_pos (by omega) (ev_neg h1 (ev_neg h2 (ev_pos (by omega) (ev_pos (by omega) (ev_neg (by rw [hv, hjo]; omega) (Ev.now _))))))))
/-- treelabel.Parents. -/
theorem parents_ev (Ll : List S41) : ∃ r, PRes Ll.length (IsL Ll) r ∧ Ev (fun k => treelabel_Parents.f k Ll) r := by
  by_cases hn : 4096 < Ll.length
  · exact ⟨([], 2), ⟨fun _ => rfl, fun h => absurd h (by omega), fun h => absurd h (by omega)⟩, ev_pos (by omega) (Ev.now _)⟩
  · obtain ⟨r, h1, h2, he⟩ := par_order (Ll := Ll) (by omega) Ll.length 0 (List.replicate Ll.length 0) (by omega) (by rw [List.length_replicate]) (fun j hj => absurd hj (Nat.not_lt_zero _)) (fun a b ha => absurd ha (Nat.not_lt_zero _)) (fun v hv => .inl ⟨rd_replicate (by omega) (by omega), fun j hj => absurd hj (Nat.not_lt_zero _)⟩)
    refine ⟨r, ⟨fun h => absurd h hn, fun _ => h1, fun _ => h2⟩, ev_neg (by omega) (ev_pos (by omega) (ev_pos (by omega) ?_))⟩
    rw [Int.toNat_natCast]
    exact he
end
end Go.Proofs.Ythjcmodhleoocaa.Q
/- FTreelabelSisters -/
namespace Go.Proofs.Ythjcmodhleoocaa.Q
open Go.RowKit Go.Proofs.YthjcmodhleoocaaW.PrintWords Go.Proofs.YthjcmodhleoocaaW.PrintLast Go.Proofs.YthjcmodhleoocaaW.PrintMore
attribute [local go_sem] max2_int min2_int max_two min_two max_three min_three max_four min_four   -- for this text's walks alone
set_option linter.unusedVariables false
set_option linter.unusedSimpArgs false

/-! ### treelabel_Sisters: function 24 -/
def treelabel_Sisters.f (k : Nat) (l0 : List (S41)) (a1 : Int) (a2 : Int) : Option (Bool) := (treelabel_parentsOf.f k l0 a1 a2).bind fun bt316 => (if bt316.2 = true then (if a1 = a2 then (some false) else (if 0 ≤ a1 then (if a1 < (bt316.1.length : Int) then (if 0 ≤ a2 then (if a2 < (bt316.1.length : Int) then (some ((rd bt316.1 a1) == (rd bt316.1 a2))) else (none)) else (none)) else (none)) else (none))) else (some false))
theorem treelabel_Sisters.mono : ∀ a0 a1 a2 k, LeO (treelabel_Sisters.f k a0 a1 a2) (treelabel_Sisters.f (k + 1) a0 a1 a2) := by
 intro a0 a1 a2 k
 unfold treelabel_Sisters.f
 repeat' first
   | (with_reducible exact treelabel_parentsOf.mono _ _ _ _)
   | (with_reducible exact LeO.refl _)
   | (with_reducible exact LeO.none _)
   | (with_reducible refine LeO.ite ?_ ?_)
   | (with_reducible refine LeO.bind ?_ (fun _ => ?_))
   | exact treelabel_parentsOf.mono _ _ _ _
   | exact LeO.none _
   | refine LeO.ite ?_ ?_
   | refine LeO.bind ?_ (fun _ => ?_)
set_option maxHeartbeats 8000000 in
set_option maxRecDepth 100000 in
theorem treelabel_Sisters.calls (k : Nat) (A0 : Option Addr) (c0 : Nat) (l0 : List (S41)) (a1 : Int) (a2 : Int) (r : Bool) (w : World) (hr0 : Kd.C k41 w A0 l0.length l0) (hc0 : l0.length ≤ c0) (h : treelabel_Sisters.f k l0 a1 a2 = some r) :
  Calls Try.prog 24 #[.slice A0 l0.length c0, .int .i64 a1, .int .i64 a2] w fun e w' => e = .returned (.bool r) ∧ Below w.heap.size w w' := by
 have HR0 := Aside0.mk hr0
 have HC0 := Aside0.mk hc0
 clear hr0 hc0
 have HB := Aside0.mk (Below.refl w.heap.size w)
 have H : ((treelabel_parentsOf.f k l0 a1 a2).bind fun bt316 => (if bt316.2 = true then (if a1 = a2 then (some false) else (if 0 ≤ a1 then (if a1 < (bt316.1.length : Int) then (if 0 ≤ a2 then (if a2 < (bt316.1.length : Int) then (some ((rd bt316.1 a1) == (rd bt316.1 a2))) else (none)) else (none)) else (none)) else (none))) else (some false))) = some r := h
 clear h
 replace H := Option.bind_eq_some_iff.mp H
 obtain ⟨⟨t316, t317⟩, A40, H⟩ := H
 replace H : (if t317 = true then (if a1 = a2 then (some false) else (if 0 ≤ a1 then (if a1 < (t316.length : Int) then (if 0 ≤ a2 then (if a2 < (t316.length : Int) then (some ((rd t316 a1) == (rd t316 a2))) else (none)) else (none)) else (none)) else (none))) else (some false)) = some r := H
 have A4 := Aside0.mk A40
 clear A40
 by_cases c5 : t317 = true
 ·subst c5
  have H1 : (if a1 = a2 then (some false) else (if 0 ≤ a1 then (if a1 < (t316.length : Int) then (if 0 ≤ a2 then (if a2 < (t316.length : Int) then (some ((rd t316 a1) == (rd t316 a2))) else (none)) else (none)) else (none)) else (none))) = some r := by rw [if_pos rfl] at H; exact H
  clear H
  have H := H1
  clear H1
  by_cases c6 : a1 = a2
  ·rw [if_pos c6] at H
   have c6b0 : (a1 == a2) = true := beq_iff_eq.mpr c6
   have c6b1 : (a1 != a2) = false := bne_eq_false_iff_eq.mpr c6
   clear c6
   obtain rfl := Option.some.inj H
   go_enter Try.func24, Try.ntmps24
   go_wp2_with (first | (go_at_call 36; (with_reducible refine (treelabel_parentsOf.calls k _ _ l0 a1 a2 t316 true _ ?side1 ?side2 A4.out).mono ?_); (case side1 => repeat (first | exact HR0.out | (with_reducible refine Kd.C_alloc ?_ _) | (with_reducible refine Kd.C_drewN ?_ _) | (with_reducible refine Kd.C_drew ?_))); (case side2 => exact HC0.out); rintro e w7 ⟨v318, rfl, ho0, hb⟩; have n0_ := Aside0.mk (Kd.R_lower ho0 (below_size (by repeat (first | (with_reducible first | exact HB.out | apply below_alloc | apply pw_below_drewN | apply below_drew1) | exact HB.out)))); have n1_ := Aside0.mk (below_step (by repeat (first | (with_reducible first | exact HB.out | apply below_alloc | apply pw_below_drewN | apply below_drew1) | exact HB.out)) hb); clear HB; have HO319 := n0_; have HB := n1_; clear n0_ n1_; (try clear hb); (try clear hb2); (try clear hk); (try clear hi); (try clear ho0)))
   repeat (go_quiet (first | (go_at_call 36; (with_reducible refine (treelabel_parentsOf.calls k _ _ l0 a1 a2 t316 true _ ?side1 ?side2 A4.out).mono ?_); (case side1 => repeat (first | exact HR0.out | (with_reducible refine Kd.C_alloc ?_ _) | (with_reducible refine Kd.C_drewN ?_ _) | (with_reducible refine Kd.C_drew ?_))); (case side2 => exact HC0.out); rintro e w7 ⟨v318, rfl, ho0, hb⟩; have n0_ := Aside0.mk (Kd.R_lower ho0 (below_size (by repeat (first | (with_reducible first | exact HB.out | apply below_alloc | apply pw_below_drewN | apply below_drew1) | exact HB.out)))); have n1_ := Aside0.mk (below_step (by repeat (first | (with_reducible first | exact HB.out | apply below_alloc | apply pw_below_drewN | apply below_drew1) | exact HB.out)) hb); clear HB; have HO319 := n0_; have HB := n1_; clear n0_ n1_; (try clear hb); (try clear hb2); (try clear hk); (try clear hi); (try clear ho0))); try go_wp2_with (first | (go_at_call 36; (with_reducible refine (treelabel_parentsOf.calls k _ _ l0 a1 a2 t316 true _ ?side1 ?side2 A4.out).mono ?_); (case side1 => repeat (first | exact HR0.out | (with_reducible refine Kd.C_alloc ?_ _) | (with_reducible refine Kd.C_drewN ?_ _) | (with_reducible refine Kd.C_drew ?_))); (case side2 => exact HC0.out); rintro e w7 ⟨v318, rfl, ho0, hb⟩; have n0_ := Aside0.mk (Kd.R_lower ho0 (below_size (by repeat (first | (with_reducible first | exact HB.out | apply below_alloc | apply pw_below_drewN | apply below_drew1) | exact HB.out)))); have n1_ := Aside0.mk (below_step (by repeat (first | (with_reducible first | exact HB.out | apply below_alloc | apply pw_below_drewN | apply below_drew1) | exact HB.out)) hb); clear HB; have HO319 := n0_; have HB := n1_; clear n0_ n1_; (try clear hb); (try clear hb2); (try clear hk); (try clear hi); (try clear ho0))))
   go_ret
   exact ⟨by first | rfl | (simp [errW_none, errW_some] <;> rfl) | (simp [*, errW_none, errW_some] <;> rfl), by repeat (first | (with_reducible first | exact HB.out | apply below_alloc | apply pw_below_drewN | apply below_drew1) | exact HB.out)⟩
  ·rw [if_neg c6] at H
   have c6b0 : (a1 == a2) = false := beq_eq_false_iff_ne.mpr c6
   have c6b1 : (a1 != a2) = true := bne_iff_ne.mpr c6
   by_cases c8 : 0 ≤ a1
   ·rw [if_pos c8] at H
    have c8b0 : decide (0 ≤ a1) = true := decide_eq_true c8
    clear c8
    by_cases c9 : a1 < (t316.length : Int)
    ·rw [if_pos c9] at H
     have c9b0 : decide (a1 < (t316.length : Int)) = true := decide_eq_true c9
     clear c9
     by_cases c10 : 0 ≤ a2
     ·rw [if_pos c10] at H
      have c10b0 : decide (0 ≤ a2) = true := decide_eq_true c10
      clear c10
      by_cases c11 : a2 < (t316.length : Int)
      ·rw [if_pos c11] at H
       have c11b0 : decide (a2 < (t316.length : Int)) = true := decide_eq_true c11
       clear c11
       obtain rfl := Option.some.inj H
       go_enter Try.func24, Try.ntmps24
       go_wp2_with (first | (go_at_call 36; (with_reducible refine (treelabel_parentsOf.calls k _ _ l0 a1 a2 t316 true _ ?side1 ?side2 A4.out).mono ?_); (case side1 => repeat (first | exact HR0.out | (with_reducible refine Kd.C_alloc ?_ _) | (with_reducible refine Kd.C_drewN ?_ _) | (with_reducible refine Kd.C_drew ?_))); (case side2 => exact HC0.out); rintro e w12 ⟨v318, rfl, ho0, hb⟩; have n0_ := Aside0.mk (Kd.R_lower ho0 (below_size (by repeat (first | (with_reducible first | exact HB.out | apply below_alloc | apply pw_below_drewN | apply below_drew1) | exact HB.out)))); have n1_ := Aside0.mk (below_step (by repeat (first | (with_reducible first | exact HB.out | apply below_alloc | apply pw_below_drewN | apply below_drew1) | exact HB.out)) hb); clear HB; have HO319 := n0_; have HB := n1_; clear n0_ n1_; (try clear hb); (try clear hb2); (try clear hk); (try clear hi); (try clear ho0); obtain ⟨Ao13, co13, eo13⟩ := Kd.R_slice HO319.out; subst eo13; have p320 : 0 ≤ (a1 : Int) := of_decide_eq_true (by first | (with_reducible assumption) | assumption); have q320 : a1 < (t316.length : Int) := of_decide_eq_true (by first | (with_reducible assumption) | assumption); obtain ⟨ad320, e320, hx320_0⟩ := Kd.at_int (Kd.R_reads' HO319.out).2.2 a1 p320 q320; cases e320; replace p320 := eq_true p320; replace q320 := eq_true q320; have p321 : 0 ≤ (a2 : Int) := of_decide_eq_true (by first | (with_reducible assumption) | assumption); have q321 : a2 < (t316.length : Int) := of_decide_eq_true (by first | (with_reducible assumption) | assumption); obtain ⟨ad321, e321, hx321_0⟩ := Kd.at_int (Kd.R_reads' HO319.out).2.2 a2 p321 q321; obtain rfl : ad320 = ad321 := (by injection e321); replace p321 := eq_true p321; replace q321 := eq_true q321))
       repeat (go_quiet (first | (go_at_call 36; (with_reducible refine (treelabel_parentsOf.calls k _ _ l0 a1 a2 t316 true _ ?side1 ?side2 A4.out).mono ?_); (case side1 => repeat (first | exact HR0.out | (with_reducible refine Kd.C_alloc ?_ _) | (with_reducible refine Kd.C_drewN ?_ _) | (with_reducible refine Kd.C_drew ?_))); (case side2 => exact HC0.out); rintro e w12 ⟨v318, rfl, ho0, hb⟩; have n0_ := Aside0.mk (Kd.R_lower ho0 (below_size (by repeat (first | (with_reducible first | exact HB.out | apply below_alloc | apply pw_below_drewN | apply below_drew1) | exact HB.out)))); have n1_ := Aside0.mk (below_step (by repeat (first | (with_reducible first | exact HB.out | apply below_alloc | apply pw_below_drewN | apply below_drew1) | exact HB.out)) hb); clear HB; have HO319 := n0_; have HB := n1_; clear n0_ n1_; (try clear hb); (try clear hb2); (try clear hk); (try clear hi); (try clear ho0); obtain ⟨Ao13, co13, eo13⟩ := Kd.R_slice HO319.out; subst eo13; have p320 : 0 ≤ (a1 : Int) := of_decide_eq_true (by first | (with_reducible assumption) | assumption); have q320 : a1 < (t316.length : Int) := of_decide_eq_true (by first | (with_reducible assumption) | assumption); obtain ⟨ad320, e320, hx320_0⟩ := Kd.at_int (Kd.R_reads' HO319.out).2.2 a1 p320 q320; cases e320; replace p320 := eq_true p320; replace q320 := eq_true q320; have p321 : 0 ≤ (a2 : Int) := of_decide_eq_true (by first | (with_reducible assumption) | assumption); have q321 : a2 < (t316.length : Int) := of_decide_eq_true (by first | (with_reducible assumption) | assumption); obtain ⟨ad321, e321, hx321_0⟩ := Kd.at_int (Kd.R_reads' HO319.out).2.2 a2 p321 q321; obtain rfl : ad320 = ad321 := (by injection e321); replace p321 := eq_true p321; replace q321 := eq_true q321)); try go_wp2_with (first | (go_at_call 36; (with_reducible refine (treelabel_parentsOf.calls k _ _ l0 a1 a2 t316 true _ ?side1 ?side2 A4.out).mono ?_); (case side1 => repeat (first | exact HR0.out | (with_reducible refine Kd.C_alloc ?_ _) | (with_reducible refine Kd.C_drewN ?_ _) | (with_reducible refine Kd.C_drew ?_))); (case side2 => exact HC0.out); rintro e w12 ⟨v318, rfl, ho0, hb⟩; have n0_ := Aside0.mk (Kd.R_lower ho0 (below_size (by repeat (first | (with_reducible first | exact HB.out | apply below_alloc | apply pw_below_drewN | apply below_drew1) | exact HB.out)))); have n1_ := Aside0.mk (below_step (by repeat (first | (with_reducible first | exact HB.out | apply below_alloc | apply pw_below_drewN | apply below_drew1) | exact HB.out)) hb); clear HB; have HO319 := n0_; have HB := n1_; clear n0_ n1_; (try clear hb); (try clear hb2); (try clear hk); (try clear hi); (try clear ho0); obtain ⟨Ao13, co13, eo13⟩ := Kd.R_slice HO319.out; subst eo13; have p320 : 0 ≤ (a1 : Int) := of_decide_eq_true (by first | (with_reducible assumption) | assumption); have q320 : a1 < (t316.length : Int) := of_decide_eq_true (by first | (with_reducible assumption) | assumption); obtain ⟨ad320, e320, hx320_0⟩ := Kd.at_int (Kd.R_reads' HO319.out).2.2 a1 p320 q320; cases e320; replace p320 := eq_true p320; replace q320 := eq_true q320; have p321 : 0 ≤ (a2 : Int) := of_decide_eq_true (by first | (with_reducible assumption) | assumption); have q321 : a2 < (t316.length : Int) := of_decide_eq_true (by first | (with_reducible assumption) | assumption); obtain ⟨ad321, e321, hx321_0⟩ := Kd.at_int (Kd.R_reads' HO319.out).2.2 a2 p321 q321; obtain rfl : ad320 = ad321 := (by injection e321); replace p321 := eq_true p321; replace q321 := eq_true q321)))
       go_ret
       exact ⟨by first | rfl | (simp [errW_none, errW_some] <;> rfl) | (simp [*, errW_none, errW_some] <;> rfl), by repeat (first | (with_reducible first | exact HB.out | apply below_alloc | apply pw_below_drewN | apply below_drew1) | exact HB.out)⟩
      ·rw [if_neg c11] at H
       exact absurd H (by simp)
     ·rw [if_neg c10] at H
      exact absurd H (by simp)
    ·rw [if_neg c9] at H
     exact absurd H (by simp)
   ·rw [if_neg c8] at H
    exact absurd H (by simp)
 ·replace c5 := Bool.eq_false_iff.mpr c5
  subst c5
  have H1 : (some false) = some r := by rw [if_neg (show ¬ (false = true) by decide)] at H; exact H
  clear H
  have H := H1
  clear H1
  obtain rfl := Option.some.inj H
  go_enter Try.func24, Try.ntmps24
  go_wp2_with (first | (go_at_call 36; (with_reducible refine (treelabel_parentsOf.calls k _ _ l0 a1 a2 t316 false _ ?side1 ?side2 A4.out).mono ?_); (case side1 => repeat (first | exact HR0.out | (with_reducible refine Kd.C_alloc ?_ _) | (with_reducible refine Kd.C_drewN ?_ _) | (with_reducible refine Kd.C_drew ?_))); (case side2 => exact HC0.out); rintro e w14 ⟨v318, rfl, ho0, hb⟩; have n0_ := Aside0.mk (Kd.R_lower ho0 (below_size (by repeat (first | (with_reducible first | exact HB.out | apply below_alloc | apply pw_below_drewN | apply below_drew1) | exact HB.out)))); have n1_ := Aside0.mk (below_step (by repeat (first | (with_reducible first | exact HB.out | apply below_alloc | apply pw_below_drewN | apply below_drew1) | exact HB.out)) hb); clear HB; have HO319 := n0_; have HB := n1_; clear n0_ n1_; (try clear hb); (try clear hb2); (try clear hk); (try clear hi); (try clear ho0)))
  repeat (go_quiet (first | (go_at_call 36; (with_reducible refine (treelabel_parentsOf.calls k _ _ l0 a1 a2 t316 false _ ?side1 ?side2 A4.out).mono ?_); (case side1 => repeat (first | exact HR0.out | (with_reducible refine Kd.C_alloc ?_ _) | (with_reducible refine Kd.C_drewN ?_ _) | (with_reducible refine Kd.C_drew ?_))); (case side2 => exact HC0.out); rintro e w14 ⟨v318, rfl, ho0, hb⟩; have n0_ := Aside0.mk (Kd.R_lower ho0 (below_size (by repeat (first | (with_reducible first | exact HB.out | apply below_alloc | apply pw_below_drewN | apply below_drew1) | exact HB.out)))); have n1_ := Aside0.mk (below_step (by repeat (first | (with_reducible first | exact HB.out | apply below_alloc | apply pw_below_drewN | apply below_drew1) | exact HB.out)) hb); clear HB; have HO319 := n0_; have HB := n1_; clear n0_ n1_; (try clear hb); (try clear hb2); (try clear hk); (try clear hi); (try clear ho0))); try go_wp2_with (first | (go_at_call 36; (with_reducible refine (treelabel_parentsOf.calls k _ _ l0 a1 a2 t316 false _ ?side1 ?side2 A4.out).mono ?_); (case side1 => repeat (first | exact HR0.out | (with_reducible refine Kd.C_alloc ?_ _) | (with_reducible refine Kd.C_drewN ?_ _) | (with_reducible refine Kd.C_drew ?_))); (case side2 => exact HC0.out); rintro e w14 ⟨v318, rfl, ho0, hb⟩; have n0_ := Aside0.mk (Kd.R_lower ho0 (below_size (by repeat (first | (with_reducible first | exact HB.out | apply below_alloc | apply pw_below_drewN | apply below_drew1) | exact HB.out)))); have n1_ := Aside0.mk (below_step (by repeat (first | (with_reducible first | exact HB.out | apply below_alloc | apply pw_below_drewN | apply below_drew1) | exact HB.out)) hb); clear HB; have HO319 := n0_; have HB := n1_; clear n0_ n1_; (try clear hb); (try clear hb2); (try clear hk); (try clear hi); (try clear ho0))))
  go_ret
  exact ⟨by first | rfl | (simp [errW_none, errW_some] <;> rfl) | (simp [*, errW_none, errW_some] <;> rfl), by repeat (first | (with_reducible first | exact HB.out | apply below_alloc | apply pw_below_drewN | apply below_drew1) | exact HB.out)⟩

end Go.Proofs.Ythjcmodhleoocaa.Q
/- CommonEv -/
namespace Go.Proofs.Ythjcmodhleoocaa.Q
open Go.RowKit Go.Proofs.YthjcmodhleoocaaW.PrintWords Go.Proofs.YthjcmodhleoocaaW.PrintLast
open Go.Proofs.Ythjcmodhleoocaa.TP
/-- x lies on the way up from j. -/
def SubI (q : List Int) (x j : Int) : Prop := ∃ m, TP.up q m j = x
/-- The first node on the way up from i that lies on the way up from j; -1 if there is none. -/
def CSpec (q : List Int) (i j c : Int) : Prop := (∃ m, TP.up q m i = c ∧ 0 ≤ c ∧ SubI q c j ∧ ∀ m', m' < m → ¬ SubI q (TP.up q m' i) j) ∨ (c = -1 ∧ ∀ m, 0 ≤ TP.up q m i → ¬ SubI q (TP.up q m i) j)
theorem CSpec.uniq {q : List Int} {i j c c' : Int} (h : CSpec q i j c) (h' : CSpec q i j c') : c = c' := by
  rcases h with ⟨m, h1, h2, h3, h4⟩ | ⟨h1, h2⟩ <;> rcases h' with ⟨m', h1', h2', h3', h4'⟩ | ⟨h1', h2'⟩
  · rcases Nat.lt_trichotomy m m' with h | h | h
    · exact absurd (h1 ▸ h3) (h4' m h)
    · subst h; rw [← h1, ← h1']
    · exact absurd (h1' ▸ h3') (h4 m' h)
  · exact absurd (h1 ▸ h3) (h2' m (by omega))
  · exact absurd (h1' ▸ h3') (h2 m' (by omega))
  · omega
theorem dom_eq (a b : S41) : treelabel_Dominates.f a.f0 a.f1 a.f2 b.f0 b.f1 b.f2 = some (decide (a.f0 < b.f0 ∧ b.f1 < a.f1)) := by
  unfold treelabel_Dominates.f
  by_cases h : a.f0 < b.f0
  · rw [if_pos h]; simp [h]
  · rw [if_neg h]; simp [h]
theorem prec_eq (a b : S41) : treelabel_Precedes.f a.f0 a.f1 a.f2 b.f0 b.f1 b.f2 = some (decide (a.f0 < b.f0 ∧ a.f1 < b.f1)) := by
  unfold treelabel_Precedes.f
  by_cases h : a.f0 < b.f0
  · rw [if_pos h]; simp [h]
  · rw [if_neg h]; simp [h]
theorem subI_nat {q : List Int} {x j : Nat} : SubI q (x : Int) (j : Int) ↔ Sub q x j := Iff.rfl
/-- What parentsOf says. -/
theorem parentsOf_ev (Ll : List S41) (i j : Int) {r : List Int × Int} (he : Ev (fun k => treelabel_Parents.f k Ll) r) : Ev (fun k => treelabel_parentsOf.f k Ll i j) (r.1, decide (r.2 = 0 ∧ (0 ≤ i ∧ i < Ll.length) ∧ (0 ≤ j ∧ j < Ll.length))) := by
  refine Ev.bind he ?_
  by_cases h0 : r.2 = 0
  · refine ev_pos h0 ?_
    by_cases h1 : i ≥ 0
    · refine ev_pos h1 ?_
      by_cases h2 : i < (Ll.length : Int)
      · refine ev_pos h2 ?_
        by_cases h3 : j ≥ 0
        · refine ev_pos h3 (ev_now ?_)
          simp [h0, h1, h2, h3]
        · exact ev_neg h3 (ev_now (by simp [h3]))
      · exact ev_neg h2 (ev_now (by simp [h2]))
    · exact ev_neg h1 (ev_now (by simp [h1]))
  · exact ev_neg h0 (ev_now (by simp [h0]))
theorem common_loop {Ll : List S41} {q : List Int} (hq : IsL Ll q) {i j : Nat} (hi : i < q.length) (hj : j < q.length) (d : Nat) : ∀ m D : Nat, HasD q (i : Int) D → m + d = D + 1 → (∀ m', m' < m → ¬ SubI q (TP.up q m' (i : Int)) (j : Int)) →
    ∃ c, CSpec q (i : Int) (j : Int) c ∧ Ev (fun k => treelabel_Common.l0 k Ll (TP.up q m (i : Int)) (j : Int) q) c := by
  obtain ⟨hl1, hl2⟩ := hq.len
  obtain ⟨Lb, hq1, hq2⟩ := hq
  have hL := hq1.lab
  have hf := hq1.2.1
  have hget : ∀ x, x < q.length → ∃ l, Lb[x]? = some l := fun x hx => ⟨_, List.getElem?_eq_getElem (by rw [hL.len]; exact hx)⟩
  induction d with
  | zero =>
    intro m D hD hm hno
    obtain rfl : m = D + 1 := by omega
    have hneg := hD.2
    have hr := up_range hf.rng (by omega) (by omega : (i : Int) < q.length) (D + 1)
    refine ⟨-1, .inr ⟨rfl, fun m' hm' => ?_⟩, ?_⟩
    · rcases Nat.lt_or_ge m' (D + 1) with h | h
      · exact hno m' h
      · have := up_nn_of h hm'; omega
    · refine Ev.step (fun k => by rw [treelabel_Common.l0]) ?_
      exact ev_neg (by omega) (ev_now (by omega))
  | succ d ih =>
    intro m D hD hm hno
    have h0 : 0 ≤ TP.up q m (i : Int) := up_nn_of (show m ≤ D by omega) hD.1
    have hlt : TP.up q m (i : Int) < q.length := (up_range hf.rng (by omega) (by omega : (i : Int) < q.length) m).2
    obtain ⟨x, hx⟩ : ∃ x : Nat, TP.up q m (i : Int) = (x : Int) := ⟨(TP.up q m (i : Int)).toNat, by omega⟩
    have hxn : x < q.length := by omega
    by_cases hxj : x = j
    · refine ⟨TP.up q m (i : Int), .inl ⟨m, rfl, h0, ⟨0, by rw [hx, hxj]; rfl⟩, hno⟩, ?_⟩
      refine Ev.step (fun k => by rw [treelabel_Common.l0]) ?_
      exact ev_pos h0 (ev_pos (by rw [hx, hxj]) (Ev.now _))
    · obtain ⟨lx, hlx⟩ := hget x hxn
      obtain ⟨lj, hlj⟩ := hget j hj
      have hiff := lab_above_iff hf hL hlx hlj
      have hd : ((rd_T41 Ll (x : Int)).f0 < (rd_T41 Ll (j : Int)).f0 ∧ (rd_T41 Ll (j : Int)).f1 < (rd_T41 Ll (x : Int)).f1) ↔ Sub q x j := by
        rw [hq2, rd41 hlx, rd41 hlj]
        simp only [lab41]
        constructor
        · intro h; exact (hiff.2 (by omega)).1
        · intro h; have := hiff.1 ⟨h, hxj⟩; omega
      by_cases hs : Sub q x j
      · refine ⟨TP.up q m (i : Int), .inl ⟨m, rfl, h0, by rw [hx]; exact hs, hno⟩, ?_⟩
        refine Ev.step (fun k => by rw [treelabel_Common.l0]) ?_
        refine ev_pos h0 (ev_neg (by rw [hx]; omega) (ev_pos h0 (ev_pos (by omega) (ev_pos (by omega) (ev_pos (by omega) ?_)))))
        rw [hx, dom_eq]
        exact ev_some (f := fun k t => _) (ev_pos (decide_eq_true (hd.2 hs)) (Ev.now _))
      · obtain ⟨c, hc, he⟩ := ih (m + 1) D hD (by omega) (fun m' hm' => by
          rcases Nat.lt_or_ge m' m with h | h
          · exact hno m' h
          · obtain rfl : m' = m := by omega
            rw [hx]; exact hs)
        refine ⟨c, hc, ?_⟩
        refine Ev.step (fun k => by rw [treelabel_Common.l0]) ?_
        refine ev_pos h0 (ev_neg (by rw [hx]; omega) (ev_pos h0 (ev_pos (by omega) (ev_pos (by omega) (ev_pos (by omega) ?_)))))
        have hnx : rd q (x : Int) = TP.up q (m + 1) (i : Int) := by rw [up_out, hx, stp_nn (by omega)]; rfl
        rw [hx, dom_eq]
        refine ev_some (f := fun k t => _) (ev_neg (fun h => hs (hd.1 (of_decide_eq_true h))) (ev_pos (by omega) ?_))
        show Ev (fun k => treelabel_Common.l0 k Ll (rd q (x : Int)) (j : Int) q) c
        rw [hnx]; exact he
/-- treelabel.Common at nodes of a forest. -/
theorem common_ev {Ll : List S41} {q : List Int} (hq : IsL Ll q) {i j : Nat} (hi : i < q.length) (hj : j < q.length) : ∃ c, CSpec q (i : Int) (j : Int) c ∧ Ev (fun k => treelabel_Common.f k Ll (i : Int) (j : Int)) c := by
  obtain ⟨hl1, hl2⟩ := hq.len
  obtain ⟨r, hr, he⟩ := parents_ev Ll
  obtain rfl := hr.found (by omega) q hq
  obtain ⟨D, _, hD⟩ := hasD_ex (by obtain ⟨Lb, h, _⟩ := hq; exact h.2.1) (x := (i : Int)) (by omega) (by omega)
  obtain ⟨c, hc, he2⟩ := common_loop hq hi hj (D + 1) 0 D hD (by omega) (fun m' h => absurd h (Nat.not_lt_zero _))
  refine ⟨c, hc, Ev.bind (parentsOf_ev Ll _ _ he) (ev_pos ?_ he2)⟩
  simp; omega
/-- treelabel.Sisters at nodes of a forest. -/
theorem sisters_ev {Ll : List S41} {q : List Int} (hq : IsL Ll q) {i j : Nat} (hi : i < q.length) (hj : j < q.length) : Ev (fun k => treelabel_Sisters.f k Ll (i : Int) (j : Int)) (decide (i ≠ j ∧ rdi q (i : Int) = rdi q (j : Int))) := by
  obtain ⟨hl1, hl2⟩ := hq.len
  obtain ⟨r, hr, he⟩ := parents_ev Ll
  obtain rfl := hr.found (by omega) q hq
  refine Ev.bind (parentsOf_ev Ll _ _ he) (ev_pos (by simp; omega) ?_)
  by_cases e : i = j
  · exact ev_pos (by omega) (ev_now (by simp [e]))
  · refine ev_neg (by omega) (ev_pos (by omega) (ev_pos (by show (i : Int) < (q.length : Int); omega) (ev_pos (by omega) (ev_pos (by show (j : Int) < (q.length : Int); omega) (ev_now ?_)))))
    rw [rd_rdi, rd_rdi]
    by_cases h : rdi q (i : Int) = rdi q (j : Int)
    · simp [h, e]
    · simp [h, e]
/-- Where the labels are those of no forest, or an index is none. -/
theorem common_none {Ll : List S41} {r : List Int × Int} (he : Ev (fun k => treelabel_Parents.f k Ll) r) {i j : Int} (h : ¬ (r.2 = 0 ∧ (0 ≤ i ∧ i < Ll.length) ∧ (0 ≤ j ∧ j < Ll.length))) : Ev (fun k => treelabel_Common.f k Ll i j) (-1) :=
  Ev.bind (parentsOf_ev Ll i j he) (ev_neg (by simpa using h) (Ev.now _))
theorem sisters_none {Ll : List S41} {r : List Int × Int} (he : Ev (fun k => treelabel_Parents.f k Ll) r) {i j : Int} (h : ¬ (r.2 = 0 ∧ (0 ≤ i ∧ i < Ll.length) ∧ (0 ≤ j ∧ j < Ll.length))) : Ev (fun k => treelabel_Sisters.f k Ll i j) false :=
  Ev.bind (parentsOf_ev Ll i j he) (ev_neg (by simpa using h) (Ev.now _))
end Go.Proofs.Ythjcmodhleoocaa.Q
/- DependEv -/
namespace Go.Proofs.Ythjcmodhleoocaa.Q
open Go.RowKit Go.Proofs.YthjcmodhleoocaaW.PrintWords Go.Proofs.YthjcmodhleoocaaW.PrintLast
open Go.Proofs.Ythjcmodhleoocaa.TP

section
variable {ps : List Int}
/-- The loop around a cycle. -/
theorem dchk_ring (hn : ps.length ≤ 4096) (hr : InR ps) {i : Nat} (hi : i < ps.length) {at_ : Int} {seen : List Int} {least : Int} {p : Nat} (hl0 : -1 ≤ least) (hat : 0 ≤ at_) (hat' : at_ < ps.length) (hp : 0 < p) (hper : TP.up ps p at_ = at_) (hmin : ∀ m, 0 < m → m < p → TP.up ps m at_ ≠ at_) (hcy : ∀ m, 0 ≤ TP.up ps m at_)
    (next : ∀ least', -1 ≤ least' → (∀ m, m < p → least' ≤ TP.up ps m at_) → (least = -1 ∨ least' ≤ least) → ((least' = least ∧ least ≠ -1) ∨ ∃ m, least' = TP.up ps m at_) → ∃ r, ChkR ps r ∧ Ev (fun k => depend_Check.l1 k ps seen least' (ps.length : Int) (wrap64 ((i : Int) + 1))) r) (d : Nat) :
    ∀ (m : Nat) (lm : Int), m + d = p → -1 ≤ lm → (∀ j, j < m → lm ≤ TP.up ps j at_) → (least = -1 ∨ lm ≤ least) → (lm = least ∨ ∃ j, lm = TP.up ps j at_) → (0 < m → 0 ≤ lm) →
      ∃ r, ChkR ps r ∧ Ev (fun k => depend_Check.l3 k ps seen lm at_ (TP.up ps m at_) (decide (m = 0)) (ps.length : Int) (i : Int)) r := by
  induction d with
  | zero =>
    intro m lm hm h0 hall hle hfrom hpos
    obtain rfl : m = p := by omega
    obtain ⟨r, hc, he⟩ := next lm h0 hall hle (by
      rcases hfrom with e | e
      · by_cases hl : least = -1
        · have := hpos hp; omega
        · exact .inl ⟨e, hl⟩
      · exact .inr e)
    refine ⟨r, hc, ?_⟩
    rw [hper, decide_eq_false (by omega)]
    refine Ev.step (fun k => by rw [depend_Check.l3]) ?_
    refine ev_neg (by decide) ?_
    rw [show (at_ != at_) = false from by simp]
    refine Ev.step (fun k => by rw [depend_Check.j6]) ?_
    exact ev_neg (by decide) he
  | succ d ih =>
    intro m lm hm h0 hall hle hfrom hpos
    have hx := hcy m
    have hx' : TP.up ps m at_ < ps.length := (up_range hr (by omega) hat' m).2
    have hnext : rd ps (TP.up ps m at_) = TP.up ps (m + 1) at_ := by rw [up_out, stp_nn hx]; rfl
    have go : ∀ lm', -1 ≤ lm' → (∀ j, j < m + 1 → lm' ≤ TP.up ps j at_) → (least = -1 ∨ lm' ≤ least) → (lm' = least ∨ ∃ j, lm' = TP.up ps j at_) → 0 ≤ lm' →
        ∃ r, ChkR ps r ∧ Ev (fun k => depend_Check.l3 k ps seen lm' at_ (rd ps (TP.up ps m at_)) false (ps.length : Int) (i : Int)) r := fun lm' a b c e f => by
      obtain ⟨r, hc, he⟩ := ih (m + 1) lm' (by omega) a b c e (fun _ => f)
      rw [decide_eq_false (by omega)] at he
      exact ⟨r, hc, by rw [hnext]; exact he⟩
    have body : ∃ r, ChkR ps r ∧ Ev (fun k => depend_Check.j6 k ps seen lm at_ (TP.up ps m at_) (ps.length : Int) (i : Int) true) r := by
      by_cases hneg : lm < 0
      · have hlm : lm = -1 := by omega
        have hm0 : m = 0 := by
          rcases Nat.eq_zero_or_pos m with h | h
          · exact h
          · have := hpos h; omega
        have hl1 : least = -1 := by
          rcases hle with h | h
          · exact h
          · rcases hfrom with h2 | ⟨j, h2⟩
            · omega
            · have := hcy j; omega
        obtain ⟨r, hc, he⟩ := go (TP.up ps m at_) (by omega) (fun j hj => by
          obtain rfl : j = m := by omega
          exact Int.le_refl _) (.inl hl1) (.inr ⟨m, rfl⟩) hx
        refine ⟨r, hc, Ev.step (fun k => by rw [depend_Check.j6]) ?_⟩
        exact ev_pos rfl (ev_pos hneg (ev_pos hx (ev_pos hx' he)))
      · by_cases hlt : TP.up ps m at_ < lm
        · obtain ⟨r, hc, he⟩ := go (TP.up ps m at_) (by omega) (fun j hj => by
            rcases Nat.lt_or_ge j m with h | h
            · have := hall j h; omega
            · obtain rfl : j = m := by omega
              omega) (by rcases hle with h | h; exact .inl h; exact .inr (by omega)) (.inr ⟨m, rfl⟩) hx
          refine ⟨r, hc, Ev.step (fun k => by rw [depend_Check.j6]) ?_⟩
          exact ev_pos rfl (ev_neg hneg (ev_pos hlt (ev_pos hx (ev_pos hx' he))))
        · obtain ⟨r, hc, he⟩ := go lm h0 (fun j hj => by
            rcases Nat.lt_or_ge j m with h | h
            · exact hall j h
            · obtain rfl : j = m := by omega
              omega) hle hfrom (by omega)
          refine ⟨r, hc, Ev.step (fun k => by rw [depend_Check.j6]) ?_⟩
          exact ev_pos rfl (ev_neg hneg (ev_neg hlt (ev_pos hx (ev_pos hx' he))))
    obtain ⟨r, hc, he⟩ := body
    refine ⟨r, hc, Ev.step (fun k => by rw [depend_Check.l3]) ?_⟩
    by_cases hm0 : m = 0
    · exact ev_pos (by simp [hm0]) he
    · refine ev_neg (by simp [hm0]) ?_
      rw [show (TP.up ps m at_ != at_) = true from by rw [bne_iff_ne]; exact hmin m (by omega) (by omega)]
      exact he

/-- The walk from a node, and what follows. -/
theorem dchk_walk (hn : ps.length ≤ 4096) (hr : InR ps) {i : Nat} (hi : i < ps.length) {seen0 : List Int} {least : Int} (hs : Seen ps i seen0 least)
    (next : ∀ seen least', Seen ps (i + 1) seen least' → ∃ r, ChkR ps r ∧ Ev (fun k => depend_Check.l1 k ps seen least' (ps.length : Int) (wrap64 ((i : Int) + 1))) r) (d : Nat) :
    ∀ (t : Nat) (seen : List Int), t + d = ps.length → Walk ps i seen0 seen t →
      ∃ r, ChkR ps r ∧ Ev (fun k => depend_Check.l2 k ps seen least (i : Int) (TP.up ps t i) (ps.length : Int) (i : Int)) r := by
  have hw : wrap64 ((i : Int) + 1) = (i : Int) + 1 := wrap_in _ (by omega) (by omega)
  -- behind the walk
  have tail : ∀ (t : Nat) (seen : List Int), Walk ps i seen0 seen t → (TP.up ps t i < 0 ∨ rd seen (TP.up ps t i) ≠ 0) →
      ∃ r, ChkR ps r ∧ Ev (fun k => depend_Check.j3 k ps seen least (i : Int) (TP.up ps t i) (ps.length : Int) (i : Int)) r := by
    intro t seen hwk hend
    have hlt : TP.up ps t i < ps.length := (up_range hr (by omega) (by omega) t).2
    by_cases hneg : TP.up ps t i < 0
    · obtain ⟨r, hc, he⟩ := next seen least (hwk.seen_plain hr hi hs (.inl hneg))
      refine ⟨r, hc, Ev.step (fun k => by rw [depend_Check.j3]) ?_⟩
      refine ev_pos hneg ?_
      refine Ev.step (fun k => by rw [depend_Check.j4]) ?_
      exact ev_pos rfl he
    · have h0 : 0 ≤ TP.up ps t i := by omega
      have hne : rd seen (TP.up ps t i) ≠ 0 := by rcases hend with h | h; omega; exact h
      by_cases hmine : rd seen (TP.up ps t i) = (i : Int) + 1
      · -- a cycle
        have hex : ∃ a, a < t ∧ TP.up ps a i = TP.up ps t i := by
          rcases hwk.cases h0 hlt with h | h
          · exact h
          · have := hs.num _ h0 hlt
            rw [← h, hmine] at this; omega
        obtain ⟨a, ha, hae⟩ := hex
        obtain ⟨hcy, _⟩ := hwk.ring ha hae.symm
        rw [hae] at hcy
        obtain ⟨p, hp, hper, hmin⟩ := least_period hcy
        have hl0 : -1 ≤ least := by rcases hs.least with ⟨e, _⟩ | ⟨e, _⟩ <;> omega
        obtain ⟨r, hc, he⟩ := dchk_ring hn hr hi (seen := seen) (least := least) hl0 h0 hlt hp hper hmin (fun m => cyc_up_nn hcy m) (fun least' _ hall hle hfrom => by
          refine next seen least' (hwk.seen_ring hr hi hs ha hae.symm ⟨p, hp, by rw [hae]; exact hper, fun m hm => by rw [hae]; exact hall m hm, hle, ?_⟩)
          rw [hae]; exact hfrom) p 0 least (by omega) hl0 (fun j hj => absurd hj (Nat.not_lt_zero _)) (.inr (Int.le_refl _)) (.inl rfl) (fun h => absurd h (Nat.lt_irrefl 0))
        refine ⟨r, hc, Ev.step (fun k => by rw [depend_Check.j3]) ?_⟩
        refine ev_neg hneg (ev_pos h0 (ev_pos (by rw [hwk.len]; exact hlt) ?_))
        rw [hw, show (rd seen (TP.up ps t i) != (i : Int) + 1) = false from by rw [bne_eq_false_iff_eq]; exact hmine]
        have he' : Ev (fun k => depend_Check.l3 k ps seen least (TP.up ps t i) (TP.up ps t i) true (ps.length : Int) (i : Int)) r := he
        refine Ev.step (fun k => by rw [depend_Check.j4]) ?_
        exact ev_neg (by decide) he'
      · have hold : rd seen0 (TP.up ps t i) ≠ 0 := by
          rcases hwk.cases h0 hlt with ⟨s, hs1, e⟩ | h
          · have := (hwk.new s hs1).2.2; rw [e] at this; exact absurd this hmine
          · rw [← h]; exact hne
        obtain ⟨r, hc, he⟩ := next seen least (hwk.seen_plain hr hi hs (.inr hold))
        refine ⟨r, hc, Ev.step (fun k => by rw [depend_Check.j3]) ?_⟩
        refine ev_neg hneg (ev_pos h0 (ev_pos (by rw [hwk.len]; exact hlt) ?_))
        rw [hw, show (rd seen (TP.up ps t i) != (i : Int) + 1) = true from by rw [bne_iff_ne]; exact hmine]
        refine Ev.step (fun k => by rw [depend_Check.j4]) ?_
        exact ev_pos rfl he
  induction d with
  | zero =>
    intro t seen ht hwk
    have hend : TP.up ps t i < 0 ∨ rd seen (TP.up ps t i) ≠ 0 := by
      rcases Int.lt_or_le (TP.up ps t i) 0 with h | h
      · exact .inl h
      · right
        intro hz
        have := (hwk.next hr hi h hz).short hr hi
        omega
    obtain ⟨r, hc, he⟩ := tail t seen hwk hend
    refine ⟨r, hc, Ev.step (fun k => by rw [depend_Check.l2]) ?_⟩
    rcases Int.lt_or_le (TP.up ps t i) 0 with h | h
    · exact ev_neg (by omega) he
    · have hlt : TP.up ps t i < ps.length := (up_range hr (by omega) (by omega) t).2
      exact ev_pos h (ev_pos h (ev_pos (by rw [hwk.len]; exact hlt) (ev_neg (by rcases hend with h2 | h2; omega; exact h2) he)))
  | succ d ih =>
    intro t seen ht hwk
    have hlt : TP.up ps t i < ps.length := (up_range hr (by omega) (by omega) t).2
    rcases Int.lt_or_le (TP.up ps t i) 0 with h | h
    · obtain ⟨r, hc, he⟩ := tail t seen hwk (.inl h)
      refine ⟨r, hc, Ev.step (fun k => by rw [depend_Check.l2]) ?_⟩
      exact ev_neg (by omega) he
    · by_cases hz : rd seen (TP.up ps t i) = 0
      · obtain ⟨r, hc, he⟩ := ih (t + 1) _ (by omega) (hwk.next hr hi h hz)
        refine ⟨r, hc, Ev.step (fun k => by rw [depend_Check.l2]) ?_⟩
        refine ev_pos h (ev_pos h (ev_pos (by rw [hwk.len]; exact hlt) (ev_pos hz (ev_pos hlt ?_))))
        rw [hw, show rd ps (TP.up ps t i) = TP.up ps (t + 1) i from by rw [up_out, stp_nn h]; rfl]
        exact he
      · obtain ⟨r, hc, he⟩ := tail t seen hwk (.inr hz)
        refine ⟨r, hc, Ev.step (fun k => by rw [depend_Check.l2]) ?_⟩
        exact ev_pos h (ev_pos h (ev_pos (by rw [hwk.len]; exact hlt) (ev_neg hz he)))

/-- The loop over all nodes. -/
theorem dchk_all (hn : ps.length ≤ 4096) (hr : InR ps) (d : Nat) : ∀ (i : Nat) (seen : List Int) (least : Int), i + d = ps.length → Seen ps i seen least →
    ∃ r, ChkR ps r ∧ Ev (fun k => depend_Check.l1 k ps seen least (ps.length : Int) (i : Int)) r := by
  induction d with
  | zero =>
    intro i seen least hi hs
    obtain rfl : i = ps.length := by omega
    rcases hs.least with ⟨e, hl⟩ | ⟨h4, h5, h6, hl⟩
    · refine ⟨(0, 0), .inr (.inr (.inr ⟨hn, hr, fun j h0 h1 => hl j h0 h1 (hs.all j h0 h1), rfl⟩)), ?_⟩
      refine Ev.step (fun k => by rw [depend_Check.l1]) ?_
      exact ev_neg (by omega) (ev_neg (by omega) (Ev.now _))
    · refine ⟨(least, 12), .inr (.inr (.inl ⟨hn, hr, least, h5, h6, fun j hj hc => hl j hc.1 hj (hs.all j hc.1 hj) hc, rfl⟩)), ?_⟩
      refine Ev.step (fun k => by rw [depend_Check.l1]) ?_
      exact ev_neg (by omega) (ev_pos h4 (Ev.now _))
  | succ d ih =>
    intro i seen least hi hs
    have hlt : i < ps.length := by omega
    obtain ⟨r, hc, he⟩ := dchk_walk hn hr hlt hs (fun seen' least' hs' => by
      obtain ⟨r, hc, he⟩ := ih (i + 1) seen' least' (by omega) hs'
      exact ⟨r, hc, by rw [wrap_up i (by omega)]; exact he⟩) ps.length 0 seen (by omega) (Walk.start hs.len)
    refine ⟨r, hc, Ev.step (fun k => by rw [depend_Check.l1]) ?_⟩
    exact ev_pos (by omega) he

/-- The loop that looks for a parent out of range. -/
theorem dchk_range (hn : ps.length ≤ 4096) (d : Nat) : ∀ (i : Nat), i + d = ps.length → (∀ j : Nat, j < i → -1 ≤ rdi ps j ∧ rdi ps j < ps.length) →
    ∃ r, ChkR ps r ∧ Ev (fun k => depend_Check.l0 k ps ps (ps.length : Int) (i : Int)) r := by
  induction d with
  | zero =>
    intro i hi hj
    obtain rfl : i = ps.length := by omega
    have hr := inR_of hj
    obtain ⟨r, hc, he⟩ := dchk_all hn hr ps.length 0 (List.replicate ps.length 0) (-1) (by omega) ⟨by rw [List.length_replicate], fun v h0 h1 => by rw [rd_replicate h0 h1]; omega, fun v h0 h1 hne => absurd (rd_replicate h0 h1) hne, fun v h0 h1 => by omega, .inl ⟨rfl, fun v h0 h1 hne => absurd (rd_replicate h0 h1) hne⟩⟩
    refine ⟨r, hc, Ev.step (fun k => by rw [depend_Check.l0]) ?_⟩
    refine ev_neg (by omega) (ev_pos (by omega) (ev_pos (by omega) ?_))
    rw [Int.toNat_natCast]
    exact he
  | succ d ih =>
    intro i hi hj
    have hlt : (i : Int) < ps.length := by omega
    by_cases h1 : rdi ps i < -1
    · refine ⟨(i, 8), .inr (.inl ⟨hn, i, by omega, .inl h1, hj, rfl⟩), ?_⟩
      refine Ev.step (fun k => by rw [depend_Check.l0]) ?_
      exact ev_pos hlt (ev_pos (by omega) (ev_pos hlt (ev_pos h1 (Ev.now _))))
    · by_cases h2 : (ps.length : Int) ≤ rdi ps i
      · refine ⟨(i, 8), .inr (.inl ⟨hn, i, by omega, .inr h2, hj, rfl⟩), ?_⟩
        refine Ev.step (fun k => by rw [depend_Check.l0]) ?_
        exact ev_pos hlt (ev_pos (by omega) (ev_pos hlt (ev_neg h1 (ev_pos h2 (Ev.now _)))))
      · obtain ⟨r, hc, he⟩ := ih (i + 1) (by omega) (fun j hji => by
          rcases Nat.lt_or_ge j i with h | h
          · exact hj j h
          · obtain rfl : j = i := by omega
            omega)
        refine ⟨r, hc, Ev.step (fun k => by rw [depend_Check.l0]) ?_⟩
        refine ev_pos hlt (ev_pos (by omega) (ev_pos hlt (ev_neg h1 (ev_neg h2 ?_))))
        rw [wrap_up i (by omega)]
        exact he
/-- depend.Check. -/
theorem dcheck_ev (ps : List Int) : ∃ r, ChkR ps r ∧ Ev (fun k => depend_Check.f k ps) r := by
  by_cases hn : 4096 < ps.length
  · exact ⟨(0, 2), .inl ⟨hn, rfl⟩, ev_pos (by omega) (Ev.now _)⟩
  · obtain ⟨r, hc, he⟩ := dchk_range (ps := ps) (by omega) ps.length 0 (by omega) (fun j hj => absurd hj (Nat.not_lt_zero _))
    exact ⟨r, hc, ev_neg (by omega) he⟩
end
end Go.Proofs.Ythjcmodhleoocaa.Q
/- PathEv -/
namespace Go.Proofs.Ythjcmodhleoocaa.Q
open Go.RowKit Go.Proofs.YthjcmodhleoocaaW.PrintWords Go.Proofs.YthjcmodhleoocaaW.PrintLast
open Go.Proofs.Ythjcmodhleoocaa.TP
/-- The first D nodes of the way up from x. -/
def wl (q : List Int) (x : Int) (D : Nat) : List Int := (List.range D).map fun m => TP.up q m x
theorem wl_len (q : List Int) (x : Int) (D : Nat) : (wl q x D).length = D := by simp [wl]
theorem wl_rd {q : List Int} {x : Int} {D m : Nat} (h : m < D) : rd (wl q x D) (m : Int) = TP.up q m x := by
  unfold rd wl
  rw [Int.toNat_natCast, List.getD_eq_getElem?_getD, List.getElem?_map, List.getElem?_range h]; rfl
theorem wl_take {q : List Int} {x : Int} {D n : Nat} (h : n ≤ D) : (wl q x D).take n = wl q x n := by
  unfold wl
  rw [← List.map_take, List.take_range, Nat.min_eq_left h]
theorem wl_snoc (q : List Int) (x : Int) (D : Nat) : wl q x (D + 1) = wl q x D ++ [TP.up q D x] := by
  unfold wl
  rw [List.range_succ, List.map_append]; rfl
section
variable {q : List Int} (hn : q.length ≤ 100) (hf : Forest q)
include hn hf in
theorem way_loop {x : Int} (hx0 : 0 ≤ x) (hx : x < q.length) {D : Nat} (hD : HasD q x D) (hDn : D < q.length) (d : Nat) : ∀ s : Nat, s + d = D + 1 → Ev (fun k => depend_way.l0 k q (TP.up q s x) (wl q x s)) (wl q x (D + 1)) := by
  induction d with
  | zero =>
    intro s hs
    obtain rfl : s = D + 1 := by omega
    have := hD.2
    refine Ev.step (fun k => by rw [depend_way.l0]) ?_
    exact ev_neg (by omega) (Ev.now _)
  | succ d ih =>
    intro s hs
    have h0 : 0 ≤ TP.up q s x := up_nn_of (show s ≤ D by omega) hD.1
    have hlt := (up_range hf.rng (by omega) hx s).2
    have hnx : rd q (TP.up q s x) = TP.up q (s + 1) x := by rw [up_out, stp_nn h0]; rfl
    refine Ev.step (fun k => by rw [depend_way.l0]) ?_
    refine ev_pos h0 (ev_pos (by rw [wl_len]; omega) (ev_pos h0 (ev_pos hlt ?_)))
    rw [hnx, ← wl_snoc]; exact ih (s + 1) (by omega)
include hn hf in
theorem way_ev {x : Int} (hx0 : 0 ≤ x) (hx : x < q.length) {D : Nat} (hD : HasD q x D) (hDn : D < q.length) : Ev (fun k => depend_way.f k q x) (wl q x (D + 1)) :=
  way_loop hn hf hx0 hx hD hDn (D + 1) 0 (by omega)
include hn hf in
theorem usable_ev {x : Int} (hx0 : 0 ≤ x) (hx : x < q.length) : Ev (fun k => depend_usable.f k q x) true := by
  obtain ⟨r, hc, he⟩ := dcheck_ev q
  obtain rfl := hc.of_forest (by omega) hf
  exact Ev.bind he (ev_pos rfl (ev_pos hx0 (ev_now (by simpa using hx))))
include hn hf in
theorem depth_ev {x : Int} (hx0 : 0 ≤ x) (hx : x < q.length) {D : Nat} (hD : HasD q x D) (hDn : D < q.length) : Ev (fun k => depend_Depth.f k q x) (D : Int) := by
  refine Ev.bind (usable_ev hn hf hx0 hx) (ev_pos rfl (Ev.bind (way_ev hn hf hx0 hx hD hDn) (ev_now ?_)))
  rw [wl_len, wrap_in _ (by omega) (by omega)]; omega
include hf in
theorem up_inj {x : Int} (hx0 : 0 ≤ x) (hx : x < q.length) {n n' : Nat} (h : TP.up q n x = TP.up q n' x) (h0 : 0 ≤ TP.up q n x) : n = n' := by
  have key : ∀ n n' : Nat, TP.up q n x = TP.up q n' x → 0 ≤ TP.up q n x → ¬ n < n' := by
    intro n n' h h0 hlt
    obtain ⟨y, hy⟩ : ∃ y : Nat, TP.up q n x = (y : Int) := ⟨(TP.up q n x).toNat, by omega⟩
    have hr := (up_range hf.rng (by omega) hx n).2
    refine no_loop hf (x := y) (by omega) (m := n' - n) (by omega) ?_
    rw [← hy, ← up_add, Nat.sub_add_cancel (by omega), ← h]
  have := key n n' h h0
  have := key n' n h.symm (h ▸ h0)
  omega
theorem l2_loop {y : Int} {n : Nat} (t : Nat) : ∀ xs : List Int, t ≤ n → xs.length + t ≤ 1000 → Ev (fun k => depend_Path.l2 k xs (wl q y n) ((t : Int) - 1)) (xs ++ (wl q y t).reverse, 0) := by
  induction t with
  | zero =>
    intro xs _ _
    refine Ev.step (fun k => by rw [depend_Path.l2]) ?_
    exact ev_neg (by omega) (ev_now (by simp [wl]))
  | succ t ih =>
    intro xs ht hl
    have e : ((t + 1 : Nat) : Int) - 1 = (t : Int) := by omega
    rw [e]
    refine Ev.step (fun k => by rw [depend_Path.l2]) ?_
    refine ev_pos (by omega) (ev_pos (by omega) (ev_pos (by rw [wl_len]; omega) (ev_pos (by omega) ?_)))
    rw [wl_rd (by omega), wrap_in _ (by omega) (by omega)]
    have := ih (xs ++ [TP.up q t y]) (by omega) (by rw [List.length_append, List.length_singleton]; omega)
    rw [wl_snoc, List.reverse_append]
    simpa using this
variable {x y : Int} (hx0 : 0 ≤ x) (hx : x < q.length) (hy0 : 0 ≤ y) (hy : y < q.length) {A B : Nat} (hA : HasD q x A) (hAn : A < q.length) (hB : HasD q y B) (hBn : B < q.length)
include hn hf hy0 hy hB hBn hAn in
/-- Behind the meeting. -/
theorem j3_met {m n : Nat} (hm : m ≤ A) (hnB : n ≤ B) (he : TP.up q m x = TP.up q n y) : ∃ P : List Int, P.length = m + 1 + n ∧ Ev (fun k => depend_Path.j3 k q (wl q x (m + 1)) (wl q y n)) (P, 0) := by
  have fin : Ev (fun k => depend_Path.j4 k (wl q x (m + 1)) (wl q y n) false) (wl q x (m + 1) ++ (wl q y n).reverse, 0) := by
    refine Ev.step (fun k => by rw [depend_Path.j4]) ?_
    refine ev_neg (by decide) ?_
    rw [wl_len, wrap_in _ (by omega) (by omega)]
    exact l2_loop n _ (Nat.le_refl _) (by rw [wl_len]; omega)
  refine ⟨wl q x (m + 1) ++ (wl q y n).reverse, by simp [wl_len], ?_⟩
  refine Ev.step (fun k => by rw [depend_Path.j3]) ?_
  cases n with
  | zero => exact ev_neg (by simp [wl]) fin
  | succ n =>
    have h0 : 0 ≤ TP.up q n y := up_nn_of (show n ≤ B by omega) hB.1
    have hlt := (up_range hf.rng (by omega) hy n).2
    have e1 : wrap64 (((wl q y (n + 1)).length : Int) - 1) = (n : Int) := by rw [wl_len, wrap_in _ (by omega) (by omega)]; omega
    have e2 : wrap64 (((wl q x (m + 1)).length : Int) - 1) = (m : Int) := by rw [wl_len, wrap_in _ (by omega) (by omega)]; omega
    rw [e1, e2, wl_rd (Nat.lt_succ_self n), wl_rd (Nat.lt_succ_self m)]
    refine ev_pos (by rw [wl_len]; omega) (ev_pos (by omega) (ev_pos (by rw [wl_len]; omega) (ev_pos h0 (ev_pos hlt (ev_pos (by omega) (ev_pos (by rw [wl_len]; omega) ?_))))))
    have hnx : rd q (TP.up q n y) = TP.up q m x := by rw [he, up_out, stp_nn h0]; rfl
    rw [hnx]
    simpa using fin
include hn hf hx0 hx hy0 hy hA hB hBn hAn in
/-- Where the ways don't meet. -/
theorem j3_apart : Ev (fun k => depend_Path.j3 k q (wl q x (A + 1)) (wl q y (B + 1))) ([], 11) := by
  have h0 := hB.1
  have hlt := (up_range hf.rng (by omega) hy B).2
  have e1 : wrap64 (((wl q y (B + 1)).length : Int) - 1) = (B : Int) := by rw [wl_len, wrap_in _ (by omega) (by omega)]; omega
  have e2 : wrap64 (((wl q x (A + 1)).length : Int) - 1) = (A : Int) := by rw [wl_len, wrap_in _ (by omega) (by omega)]; omega
  refine Ev.step (fun k => by rw [depend_Path.j3]) ?_
  rw [e1, e2, wl_rd (Nat.lt_succ_self B), wl_rd (Nat.lt_succ_self A)]
  refine ev_pos (by rw [wl_len]; omega) (ev_pos (by omega) (ev_pos (by rw [wl_len]; omega) (ev_pos h0 (ev_pos hlt (ev_pos (by omega) (ev_pos (by rw [wl_len]; omega) ?_))))))
  have hnx : rd q (TP.up q B y) = TP.up q (B + 1) y := by rw [up_out, stp_nn h0]; rfl
  have h1 := hA.1
  have h2 := hB.2
  have hne : (TP.up q (B + 1) y != TP.up q A x) = true := by
    rw [bne_iff_ne]; omega
  rw [hnx, hne]
  refine Ev.step (fun k => by rw [depend_Path.j4]) ?_
  exact ev_pos rfl (Ev.now _)
include hBn in
theorem pl1_loop {m : Nat} (hm : m ≤ A) (hmn : m < 100) {res : List Int × Int} (found : ∀ n, n ≤ B → TP.up q m x = TP.up q n y → Ev (fun k => depend_Path.j3 k q (wl q x (m + 1)) (wl q y n)) res)
    (none_ : (∀ n, n ≤ B → TP.up q m x ≠ TP.up q n y) → Ev (fun k => depend_Path.l0 k q (wl q x (A + 1)) (wl q y (B + 1)) ((A + 1 : Nat) : Int) ((m + 1 : Nat) : Int)) res) (hB100 : B < 100) (d : Nat) : ∀ s : Nat, s + d = B + 1 → (∀ n, n < s → TP.up q m x ≠ TP.up q n y) →
    Ev (fun k => depend_Path.l1 k q (wl q x (A + 1)) (wl q y (B + 1)) (m : Int) (TP.up q m x) ((A + 1 : Nat) : Int) (m : Int) ((B + 1 : Nat) : Int) (s : Int)) res := by
  induction d with
  | zero =>
    intro s hs hno
    refine Ev.step (fun k => by rw [depend_Path.l1]) ?_
    refine ev_neg (by omega) ?_
    rw [wrap_up m (by omega)]
    exact none_ (fun n h => hno n (by omega))
  | succ d ih =>
    intro s hs hno
    refine Ev.step (fun k => by rw [depend_Path.l1]) ?_
    refine ev_pos (by omega) (ev_pos (by omega) (ev_pos (by rw [wl_len]; omega) ?_))
    rw [wl_rd (by omega)]
    by_cases e : TP.up q m x = TP.up q s y
    · refine ev_pos e (ev_pos (by rw [wrap_up m (by omega)]; omega) (ev_pos (by rw [wrap_up m (by omega), wl_len]; omega) (ev_pos (by rw [wl_len]; omega) ?_)))
      rw [wrap_up m (by omega), Int.toNat_natCast, Int.toNat_natCast, wl_take (by omega), wl_take (by omega)]
      exact found s (by omega) e
    · refine ev_neg e ?_
      rw [wrap_up s (by omega)]
      exact ih (s + 1) (by omega) (fun n h => by
        rcases Nat.lt_or_ge n s with l | l
        · exact hno n l
        · obtain rfl : n = s := by omega
          exact e)
include hn hf hx0 hx hy0 hy hA hB hBn hAn in
theorem path_met {m n : Nat} (hm : m ≤ A) (hnB : n ≤ B) (he : TP.up q m x = TP.up q n y) (hfirst : ∀ m', m' < m → ∀ n', TP.up q m' x ≠ TP.up q n' y) (d : Nat) : ∀ i : Nat, i + d = m →
    ∃ P : List Int, P.length = m + 1 + n ∧ Ev (fun k => depend_Path.l0 k q (wl q x (A + 1)) (wl q y (B + 1)) ((A + 1 : Nat) : Int) (i : Int)) (P, 0) := by
  obtain ⟨P, hP, hPe⟩ := j3_met hn hf hy0 hy hAn hB hBn hm hnB he
  intro i hi
  refine ⟨P, hP, ?_⟩
  revert i
  induction d with
  | zero =>
    intro i hi
    obtain rfl : i = m := by omega
    refine Ev.step (fun k => by rw [depend_Path.l0]) ?_
    refine ev_pos (by omega) (ev_pos (by omega) (ev_pos (by rw [wl_len]; omega) ?_))
    rw [wl_rd (by omega), wl_len]
    refine pl1_loop hBn hm (by omega) (fun n' h1 h2 => ?_) (fun h => absurd he (h n hnB)) (by omega) (B + 1) 0 (by omega) (fun n h => absurd h (Nat.not_lt_zero _))
    have h0 : 0 ≤ TP.up q n y := up_nn_of hnB hB.1
    obtain rfl := up_inj hf hy0 hy (he.symm.trans h2) h0
    exact hPe
  | succ d ih =>
    intro i hi
    refine Ev.step (fun k => by rw [depend_Path.l0]) ?_
    refine ev_pos (by omega) (ev_pos (by omega) (ev_pos (by rw [wl_len]; omega) ?_))
    rw [wl_rd (by omega), wl_len]
    exact pl1_loop hBn (by omega) (by omega) (fun n' h1 h2 => absurd h2 (hfirst i (by omega) n')) (fun _ => ih (i + 1) (by omega)) (by omega) (B + 1) 0 (by omega) (fun n h => absurd h (Nat.not_lt_zero _))
include hn hf hx0 hx hy0 hy hA hB hBn hAn in
theorem path_apart (hno : ∀ m, m ≤ A → ∀ n, TP.up q m x ≠ TP.up q n y) (d : Nat) : ∀ i : Nat, i + d = A + 1 →
    Ev (fun k => depend_Path.l0 k q (wl q x (A + 1)) (wl q y (B + 1)) ((A + 1 : Nat) : Int) (i : Int)) ([], 11) := by
  induction d with
  | zero =>
    intro i hi
    refine Ev.step (fun k => by rw [depend_Path.l0]) ?_
    exact ev_neg (by omega) (j3_apart hn hf hx0 hx hy0 hy hA hAn hB hBn)
  | succ d ih =>
    intro i hi
    refine Ev.step (fun k => by rw [depend_Path.l0]) ?_
    refine ev_pos (by omega) (ev_pos (by omega) (ev_pos (by rw [wl_len]; omega) ?_))
    rw [wl_rd (by omega), wl_len]
    exact pl1_loop hBn (by omega) (by omega) (fun n' h1 h2 => absurd h2 (hno i (by omega) n')) (fun _ => ih (i + 1) (by omega)) (by omega) (B + 1) 0 (by omega) (fun n h => absurd h (Nat.not_lt_zero _))
include hn hf hx0 hx hy0 hy hA hB hBn hAn in
/-- depend.Path, from its loop. -/
theorem path_ev {res : List Int × Int} (h : Ev (fun k => depend_Path.l0 k q (wl q x (A + 1)) (wl q y (B + 1)) ((A + 1 : Nat) : Int) 0) res) : Ev (fun k => depend_Path.f k q x y) res := by
  refine Ev.bind (usable_ev hn hf hx0 hx) (ev_pos rfl (ev_neg (by omega) ?_))
  rw [decide_eq_false (by omega)]
  refine Ev.step (fun k => by rw [depend_Path.j0]) ?_
  refine ev_neg (by decide) (Ev.bind (way_ev hn hf hx0 hx hA hAn) (Ev.bind (way_ev hn hf hy0 hy hB hBn) ?_))
  rw [wl_len]; exact h
end
end Go.Proofs.Ythjcmodhleoocaa.Q
/- PureTreelabelHeads -/
namespace Go.Proofs.Ythjcmodhleoocaa.Pure
open Go.RowKit Go.Proofs.Ythjcmodhleoocaa.Q Go.Proofs.YthjcmodhleoocaaW.PrintWords Go.Proofs.YthjcmodhleoocaaW.PrintLast
open Go.Proofs.Ythjcmodhleoocaa.TP
theorem heads_len {A B m n : Nat} (hm : m ≤ A) (hn : n ≤ B) (h : A - m = B - n) (hA : A < 100) (hB : B < 100) : ((m + 1 + n : Nat) : Int) = wrap64 ((wrap64 ((wrap64 ((A : Int) + (B : Int))) - (wrap64 (2 * ((A - m : Nat) : Int))))) + 1) := by
  obtain ⟨C, rfl⟩ : ∃ C, A = C + m := ⟨A - m, by omega⟩
  obtain rfl : B = C + n := by omega
  rw [Nat.add_sub_cancel]
  have w1 : wrap64 (((C + m : Nat) : Int) + ((C + n : Nat) : Int)) = ((C + m : Nat) : Int) + ((C + n : Nat) : Int) := wrap_in _ (by omega) (by omega)
  have w2 : wrap64 (2 * (C : Int)) = 2 * (C : Int) := wrap_in _ (by omega) (by omega)
  have w3 : wrap64 (((C + m : Nat) : Int) + ((C + n : Nat) : Int) - 2 * (C : Int)) = ((C + m : Nat) : Int) + ((C + n : Nat) : Int) - 2 * (C : Int) := wrap_in _ (by omega) (by omega)
  have w4 : wrap64 (((C + m : Nat) : Int) + ((C + n : Nat) : Int) - 2 * (C : Int) + 1) = ((C + m : Nat) : Int) + ((C + n : Nat) : Int) - 2 * (C : Int) + 1 := wrap_in _ (by omega) (by omega)
  rw [w1, w2, w3, w4]
  omega
set_option maxHeartbeats 2000000 in
theorem TreelabelHeads : corporalaw10_TreelabelHeads.Pure := by
  intro ps a b _ _ _ _ _
  refine Ev.rounds (g := fun k => corporalaw10_TreelabelHeads.f k ps a b) ?_
  have out : Ev (fun k => corporalaw10_TreelabelHeads.j0 k ps a b (ps.length : Int) true) true := by
    refine Ev.step (fun k => by rw [corporalaw10_TreelabelHeads.j0]) ?_
    exact ev_pos rfl (Ev.now _)
  by_cases hn : (ps.length : Int) > 40
  · exact ev_pos hn out
  · refine ev_neg hn ?_
    by_cases q1 : a < 0
    · exact ev_pos q1 out
    · refine ev_neg q1 ?_
      by_cases q2 : a ≥ (ps.length : Int)
      · exact ev_pos q2 out
      · refine ev_neg q2 ?_
        by_cases q3 : b < 0
        · exact ev_pos q3 out
        · refine ev_neg q3 ?_
          by_cases q4 : b ≥ (ps.length : Int)
          · rw [decide_eq_true q4]; exact out
          · rw [decide_eq_false q4]
            obtain ⟨i, rfl⟩ : ∃ i : Nat, a = (i : Int) := ⟨a.toNat, by omega⟩
            obtain ⟨j, rfl⟩ : ∃ j : Nat, b = (j : Int) := ⟨b.toNat, by omega⟩
            obtain ⟨r, L, hc, h1, h2, he⟩ := asg_ev ps
            obtain ⟨r', hc', he'⟩ := dcheck_ev ps
            obtain rfl := hc.uniq hc'
            refine Ev.step (fun k => by rw [corporalaw10_TreelabelHeads.j0]) ?_
            refine ev_neg (by decide) (Ev.bind he (Ev.bind he' (ev_pos rfl ?_)))
            have e0 : (r.2 != r.2) = false := by simp
            show Ev (fun k => corporalaw10_TreelabelHeads.j1 k ps (i : Int) (j : Int) (ps.length : Int) (L.map lab41) r.2 (r.2 != r.2)) true
            rw [e0]
            refine Ev.step (fun k => by rw [corporalaw10_TreelabelHeads.j1]) ?_
            refine ev_neg (by decide) ?_
            by_cases h0 : r.2 = 0
            · refine ev_pos h0 ?_
              obtain ⟨hn', hf, _⟩ := hc.forest h0
              have hL := (h1 h0).lab hn' hf
              have hlen := hL.len
              have hq : IsL (L.map lab41) ps := ⟨L, ⟨hn', hf, h1 h0⟩, rfl⟩
              have hi : i < ps.length := by omega
              have hj : j < ps.length := by omega
              obtain ⟨A, hAn, hA⟩ := hasD_ex hf (x := (i : Int)) (by omega) (by omega)
              obtain ⟨B, hBn, hB⟩ := hasD_ex hf (x := (j : Int)) (by omega) (by omega)
              have lab : ∀ x : Nat, x < ps.length → ∀ D, HasD ps (x : Int) D → (rd_T41 (L.map lab41) (x : Int)).f2 = (D : Int) := fun x hx D hD => by
                have hg : L[x]? = some (L[x]'(by omega)) := List.getElem?_eq_getElem (by omega)
                rw [rd41 hg, ← (hL.dep x _ hg).uniq hD]; rfl
              have la := lab i hi A hA
              have lb := lab j hj B hB
              obtain ⟨c, hcs, hce⟩ := common_ev hq hi hj
              have hdep := depth_ev (by omega) hf (x := (i : Int)) (by omega) (by omega) hA hAn
              rcases hcs with ⟨m, e1, e2, ⟨n, e3⟩, e4⟩ | ⟨e1, e2⟩
              · have hm : m ≤ A := by
                  rcases Nat.lt_or_ge A m with h | h
                  · have := up_nn_of (show A + 1 ≤ m by omega) (by rw [e1]; exact e2); have := hA.2; omega
                  · exact h
                have hnB : n ≤ B := by
                  rcases Nat.lt_or_ge B n with h | h
                  · have := up_nn_of (show B + 1 ≤ n by omega) (by rw [e3]; exact e2); have := hB.2; omega
                  · exact h
                obtain ⟨c', rfl⟩ : ∃ c' : Nat, c = (c' : Int) := ⟨c.toNat, by omega⟩
                have hcl := (up_range hf.rng (by omega) (by omega : (i : Int) < ps.length) m).2
                rw [e1] at hcl
                have hC : HasD ps (c' : Int) (A - m) := by
                  constructor
                  · rw [← e1, ← up_add, Nat.sub_add_cancel hm]; exact hA.1
                  · rw [← e1, ← up_add, show A - m + 1 + m = A + 1 by omega]; exact hA.2
                have hC' : HasD ps (c' : Int) (B - n) := by
                  constructor
                  · rw [← e3, ← up_add, Nat.sub_add_cancel hnB]; exact hB.1
                  · rw [← e3, ← up_add, show B - n + 1 + n = B + 1 by omega]; exact hB.2
                have hAB := hC.uniq hC'
                have lc := lab c' (by omega) _ hC
                obtain ⟨P, hP, hPe⟩ := path_met (by omega) hf (x := (i : Int)) (by omega) (by omega) (y := (j : Int)) (by omega) (by omega) hA hAn hB hBn hm hnB (e1.trans e3.symm) (fun m' hm' n' h => e4 m' hm' ⟨n', h.symm⟩) m 0 (by omega)
                refine Ev.bind (path_ev (by omega) hf (by omega) (by omega) (by omega) (by omega) hA hAn hB hBn hPe) (Ev.bind hce (ev_pos (by rw [List.length_map, hlen]) (ev_pos (by omega) (ev_pos (by rw [List.length_map]; omega) (Ev.bind hdep (ev_pos la (ev_neg (by simp) ?_)))))))
                rw [decide_eq_false (by omega)]
                refine Ev.step (fun k => by rw [corporalaw10_TreelabelHeads.j2]) ?_
                refine ev_neg (by decide) (ev_neg (by omega) (ev_pos (by omega) (ev_pos (by rw [List.length_map]; omega) (ev_pos (by omega) (ev_pos (by rw [List.length_map]; omega) (ev_pos (by omega) (ev_pos (by rw [List.length_map]; omega) (ev_pos ?_ (Ev.bind awake_ev (Ev.now _))))))))))
                rw [la, lb, lc, hP]
                exact heads_len hm hnB hAB (by omega) (by omega)
              · have hno : ∀ m, m ≤ A → ∀ n, TP.up ps m (i : Int) ≠ TP.up ps n (j : Int) := fun m hm n h => e2 m (up_nn_of hm hA.1) ⟨n, h.symm⟩
                have hPe := path_apart (by omega) hf (x := (i : Int)) (by omega) (by omega) (y := (j : Int)) (by omega) (by omega) hA hAn hB hBn hno (A + 1) 0 (by omega)
                subst e1
                refine Ev.bind (path_ev (by omega) hf (by omega) (by omega) (by omega) (by omega) hA hAn hB hBn hPe) (Ev.bind hce (ev_pos (by rw [List.length_map, hlen]) (ev_pos (by omega) (ev_pos (by rw [List.length_map]; omega) (Ev.bind hdep (ev_pos la (ev_neg (by simp) ?_)))))))
                rw [decide_eq_false (by omega)]
                refine Ev.step (fun k => by rw [corporalaw10_TreelabelHeads.j2]) ?_
                exact ev_neg (by simp) (ev_pos (by simp) (ev_pos (by simp) (Ev.bind awake_ev (Ev.now _))))
            · exact ev_neg h0 (Ev.bind awake_ev (Ev.now _))
end Go.Proofs.Ythjcmodhleoocaa.Pure
/- LawTreelabelHeads -/
namespace Go.Proofs.Ythjcmodhleoocaa.treelabelHeads
open Go.ChangeShapes Go.WideShapes Go.ChangeAt Go.RowKit
open Go.ChangeMaps (open_string shut_string)
set_option linter.unusedVariables false
theorem own : ownKnob Try.prog.godebug = none := by kernel_rfl
theorem laidOut : laidOutB Try.prog = true := by kernel_rfl
def IsRow (k : IntKind) (w : World) (a : Option Addr) (len cap : Nat) (zs : List Int) : Prop :=
  (a = none ∧ len = 0 ∧ cap = 0 ∧ zs = []) ∨
  ∃ x, a = some x ∧ len ≤ cap ∧ cap ≤ maxLen ∧ zs.length = cap ∧ (∀ i, i < zs.length → w.cell? (x.add i) = some (.int k (zs.getD i 0))) ∧ ∀ n ∈ zs, (Lit.int k n).wf = true
set_option maxRecDepth 100000 in
theorem lifted (os : Os) (started : os.Started) (H : Type) (enc : TypeId × Value → H) :
    ReturnsInHanded {} Try.checked os 10 .any (Rows.treelabelHeadsSpec.pre6 enc Try.prog Try.f10 Rows.treelabelHeadsRow.domain false) (Rows.treelabelHeadsSpec.post enc Try.prog Try.f10 false true false false) := by
  refine returnsInHanded_of_change_sized (C := Try.checked) own started (by kernel_rfl) Try.func10
    (ChangeSpec.witness6 (enc := enc) (C := Try.checked) false ⟨#[], #[.slice none 0 0, .int .i64 0, .int .i64 0], []⟩ 8 (by kernel_rfl) (by kernel_rfl) (by kernel_rfl) (by kernel_rfl)) ?_
  intro W base args ds gs before hval0 hW hcnd hsz0 _
  have hsz : (DataW.weightsEach Try.prog (Try.f10.params.toList ++ Rows.treelabelHeadsSpec.plain.varTypes Try.prog) (ds ++ gs)).all (· ≤ reachBytes) = true := hsz0
  have hval : ∀ (j : Nat) t v, Try.f10.params[j]? = some t → args[j]? = some v → Value.okWide Try.prog W .any base t v := hval0
  have hW' := hW
  obtain ⟨p, q, hA0, hV, rfl, hfz, hnd⟩ := hW
  have hA : DataW.TrodAll enc Try.prog W 0 (fun _ => true) true Try.f10.params.toList args.toList ds p := hA0
  rw [Try.params10] at hA hval hsz
  obtain ⟨v0, vs0, d0, ds0, p0, q0, hargs, rfl, rfl, h0, r0⟩ := trodAll_cons hA
  obtain ⟨v1, vs1, d1, ds1, p1, q1, rfl, rfl, rfl, h1, r1⟩ := trodAll_cons r0
  obtain ⟨v2, vs2, d2, ds2, p2, q2, rfl, rfl, rfl, h2, r2⟩ := trodAll_cons r1
  obtain ⟨rfl, rfl, rfl⟩ := trodAll_nil r2
  obtain rfl : args = #[v0, v1, v2] := by cases args; simp_all
  obtain ⟨rfl, rfl⟩ := trodVars_none hV
  obtain ⟨a0, len0, cap0, rfl⟩ := okWide_slice Try.underlying22 (hval 0 22 v0 rfl rfl)
  have k0 := h0
  have lt0 : ∀ x ∈ p0, x.block < W.heap.size := by obtain ⟨m, hm⟩ := k0; exact DataW.trod_lt m _ _ _ hm
  obtain ⟨z0, w0⟩ : ∃ zs, IsRow .i64 W a0 len0 cap0 zs := by
    obtain ⟨fuel, hf⟩ := h0
    rcases open_ints Try.underlying22 Try.underlying3 (by kernel_rfl) hf with ⟨hcs, _⟩ | ⟨x, l, c, zs, hcs, _, hl, hm, hz, _, hcell, hwz⟩
    · simp [Value.cells] at hcs
      obtain ⟨rfl, rfl, rfl⟩ := hcs
      exact ⟨[], .inl ⟨rfl, rfl, rfl, rfl⟩⟩
    · simp [Value.cells] at hcs
      obtain ⟨rfl, rfl, rfl⟩ := hcs
      exact ⟨zs, .inr ⟨_, rfl, hl, hm, by simpa using hz, hcell, hwz⟩⟩
  have y0 : len0 * 8 ≤ 140737488351232 := Go.Proofs.YthjcmodhleoocaaW.PrintWords.sized_ints hsz (j := 0) (t := 22) rfl rfl Try.underlying22 Try.underlying3 (by kernel_rfl) (by kernel_rfl) h0
  obtain ⟨a1, rfl, rfl, rfl, w1⟩ := open_int Try.underlying3 (hval 1 3 v1 rfl rfl) h1
  obtain ⟨a2, rfl, rfl, rfl, w2⟩ := open_int Try.underlying3 (hval 2 3 v2 rfl rfl) h2
  clear hA0 hval0 hsz0 hsz
  refine (Q.corporalaw10_TreelabelHeads.walk Pure.TreelabelHeads a0 len0 cap0 z0 a1 a2 W w0 y0 w1 w2).mono fun e W' ⟨he, bel⟩ => ?_
  subst he
  exact ⟨_, rfl, _, _, _, [], _, [], hW', trodAll_mk1 (shut_bool Try.underlying4 _), (trodAll_cons_mk (Below.trod laidOut (by kernel_rfl) (of_decide_eq_true (by kernel_rfl)) k0 bel lt0) (trodAll_cons_mk (shut_int Try.underlying3 w1) (trodAll_cons_mk (shut_int Try.underlying3 w2) trodAll_mk0))), rfl, bel.frame _, fun h => by cases h⟩
theorem over : Rows.treelabelHeadsRow.holds Try.pinned (OpenSpec.ofChange Rows.treelabelHeadsSpec) :=
  OpenClaim.holds_of_wide 10 Try.f10 rfl rfl rfl rfl rfl rfl rfl ⟨rfl, rfl, rfl, rfl, rfl⟩ rfl rfl rfl rfl rfl (by kernel_rfl) Try.func10 (by kernel_rfl)
    (of_decide_eq_true (by kernel_rfl)) (by unfold Func.isWrapper; first | (rw [if_pos (by decide +kernel)]; kernel_rfl) | (rw [if_neg (by decide +kernel)]; exact ⟨rfl, rfl⟩))
    (fun os started H enc _ => lifted os started H enc)
theorem proved : Rows.TreelabelHeadsSaid := over
end Go.Proofs.Ythjcmodhleoocaa.treelabelHeads
namespace Go.Proofs.Ythjcmodhleoocaa
/-- The row, under a short name, for the claim. -/
theorem treelabelHeads_holds : Rows.TreelabelHeadsSaid := treelabelHeads.proved
end Go.Proofs.Ythjcmodhleoocaa
