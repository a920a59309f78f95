/- For every corpus that comes in, TopConstituents returns true and leaves the corpus as it was; the listed variables are tied to the program's text. (Part 5.) -/
import Derived.Test.YthjcmodhleoocaaGreatDoorMT4
import Derived.Test.YthjcmodhleoocaaGreatDoorMT3
import Derived.Test.YthjcmodhleoocaaGreatDoorMT2
import Derived.Lib.ConvBytes
set_option linter.unusedVariables false
set_option linter.unusedSimpArgs false
set_option linter.unusedSectionVars false
/- ZHeads6 -/
namespace Go.Proofs.YthjcmodhleoocaaGreatDoor.Z
open Go Go.RowKit Go.Lib
set_option linter.unusedVariables false
set_option linter.unusedSimpArgs false
theorem cp7 {w w' : World} {cb : Nat} {v0 v1 v2 v3 v4 v5 v6 : Value} (h : Bx w w' cb #[v0, v1, v2, v3, v4, v5, v6] 30) : w'.cell? ⟨cb, 0, none⟩ = some v0 ∧ w'.cell? ⟨cb, 1, none⟩ = some v1 ∧ w'.cell? ⟨cb, 2, none⟩ = some v2 ∧ w'.cell? ⟨cb, 3, none⟩ = some v3 ∧ w'.cell? ⟨cb, 4, none⟩ = some v4 ∧ w'.cell? ⟨cb, 5, none⟩ = some v5 ∧ w'.cell? ⟨cb, 6, none⟩ = some v6 ∧ Aside (Bx w w' cb #[v0, v1, v2, v3, v4, v5, v6] 30) :=
  ⟨h.c 0, h.c 1, h.c 2, h.c 3, h.c 4, h.c 5, h.c 6, ⟨h⟩⟩
set_option maxRecDepth 100000 in
set_option maxHeartbeats 32000000 in
theorem heads6 (w : World) (a t x r k h l : Value) (T : List (List ByteArray)) (Z : List Tx) (H : List Int) (L : List ByteArray) (ht : Tks w t T) (hx : Txs w x Z) (hh : Is w h H) (hl : Ss w l L) :
    Calls Tryz.prog 57 #[.agg #[a, t, x, r, k, h, l]] w fun r w' => RetP r ∧ Below w.heap.size w w' := by
  have hx0 := hx
  have hh0 := hh
  have hl0 := hl
  obtain ⟨A1, c1, rfl, g1, m1, R1⟩ := ht
  have b1 := lim_of g1 m1
  have gc1 := g1
  obtain ⟨n1, hn1⟩ : ∃ n, n = T.length := ⟨_, rfl⟩
  rw [← hn1] at b1 gc1 ⊢
  have K1 := Lib.hid R1
  clear R1 g1 m1
  have N1 := Lib.hid hn1
  clear hn1
  obtain ⟨A2, c2, rfl, g2, m2, R2⟩ := hx
  have b2 := lim_of g2 m2
  have gc2 := g2
  obtain ⟨n2, hn2⟩ : ∃ n, n = Z.length := ⟨_, rfl⟩
  rw [← hn2] at b2 gc2 ⊢
  have K2 := Lib.hid R2
  clear R2 g2 m2
  have N2 := Lib.hid hn2
  clear hn2
  obtain ⟨A5, c5, rfl, g5, m5, R5⟩ := hh
  have b5 := lim_of g5 m5
  have gc5 := g5
  obtain ⟨n5, hn5⟩ : ∃ n, n = H.length := ⟨_, rfl⟩
  rw [← hn5] at b5 gc5 ⊢
  have K5 := Lib.hid R5
  clear R5 g5 m5
  have N5 := Lib.hid hn5
  clear hn5
  obtain ⟨A6, c6, rfl, g6, m6, R6⟩ := hl
  have b6 := lim_of g6 m6
  have gc6 := g6
  obtain ⟨n6, hn6⟩ : ∃ n, n = L.length := ⟨_, rfl⟩
  rw [← hn6] at b6 gc6 ⊢
  have K6 := Lib.hid R6
  clear R6 g6 m6
  have N6 := Lib.hid hn6
  clear hn6
  have hx0 : Txs w (.slice A2 n2 c2) Z := by rw [N2.out]; exact hx0
  have hh0 : Is w (.slice A5 n5 c5) H := by rw [N5.out]; exact hh0
  have hl0 : Ss w (.slice A6 n6 c6) L := by rw [N6.out]; exact hl0
  cases d0 : ((n5 : Int) != n6) with
  | true =>
    go_enter Tryz.func57, Tryz.ntmps57
    go_wp2
    go_ret2
    exact ⟨⟨_, _, rfl⟩, (Below.refl _ w).alloc (Nat.le_refl _) _⟩
  | false =>
  have hnn : n5 = n6 := by have : (n5 : Int) = n6 := by simpa using d0
                           omega
  clear d0
  subst hnn
  cases d1 : ((n5 : Int) != 0) with
  | false =>
    have hz : n5 = 0 := by have : (n5 : Int) = 0 := by simpa using d1
                           omega
    subst hz
    clear d1
    have H0 := Bx.new w #[a, .slice A1 n1 c1, .slice A2 n2 c2, r, k, .slice A5 0 c5, .slice A6 0 c6] 30
    go_enter Tryz.func57, Tryz.ntmps57
    go_wp2_with fail
    obtain ⟨cb, hcb⟩ : ∃ cb, cb = w.heap.size := ⟨_, rfl⟩
    rw [← hcb]
    rw [← hcb] at H0
    clear hcb
    generalize w.alloc (.cells #[a, .slice A1 n1 c1, .slice A2 n2 c2, r, k, .slice A5 0 c5, .slice A6 0 c6] 30) = w1 at *
    go_loopg [38] 0 (fun q v w' => v = .int .i64 0 ∧ w' = w1)
    case atStart => exact ⟨rfl, rfl⟩
    case round =>
      obtain ⟨rfl, rfl⟩ := hrel
      go_wp2
      go_ret2
      exact ⟨⟨_, _, rfl⟩, H0.b⟩
  | true =>
  cases d2 : ((n5 : Int) != n1) with
  | true =>
    go_enter Tryz.func57, Tryz.ntmps57
    go_wp2
    go_ret2
    exact ⟨⟨_, _, rfl⟩, (Below.refl _ w).alloc (Nat.le_refl _) _⟩
  | false =>
  have d3 : 0 < n5 := by have : (n5 : Int) ≠ 0 := by simpa using d1
                         omega
  have cbare := Lib.hid (bare6 _ _ H L _ (hh0.below ((Below.refl _ w).alloc (Nat.le_refl _) (.cells #[a, .slice A1 n1 c1, .slice A2 n2 c2, r, k, .slice A5 n5 c5, .slice A6 n5 c6] 30))) (hl0.below ((Below.refl _ w).alloc (Nat.le_refl _) (.cells #[a, .slice A1 n1 c1, .slice A2 n2 c2, r, k, .slice A5 n5 c5, .slice A6 n5 c6] 30))) (by have h1 := N5.out; have h2 := N6.out; omega))
  have H0 := Bx.new w #[a, .slice A1 n1 c1, .slice A2 n2 c2, r, k, .slice A5 n5 c5, .slice A6 n5 c6] 30
  go_enter Tryz.func57, Tryz.ntmps57
  go_wp2_with (go_at_call 84; refine cbare.out.mono ?_; rintro r w1 ⟨⟨b, rfl⟩, rfl⟩; cases b)
  all_goals (try (go_ret2; exact ⟨⟨_, _, rfl⟩, H0.b⟩))
  obtain ⟨cb, hcb⟩ : ∃ cb, cb = w.heap.size := ⟨_, rfl⟩
  rw [← hcb]
  rw [← hcb] at H0
  clear hcb
  generalize w.alloc (.cells #[a, .slice A1 n1 c1, .slice A2 n2 c2, r, k, .slice A5 n5 c5, .slice A6 n5 c6] 30) = w1 at *
  clear cbare d3
  go_loopg [38] n5 (fun q v w' => ∃ i : Nat, i + q = n5 ∧ v = .int .i64 i ∧ Aside (Bx w w' cb #[a, .slice A1 n1 c1, .slice A2 n2 c2, r, k, .slice A5 n5 c5, .slice A6 n5 c6] 30))
  case atStart => exact ⟨0, by omega, rfl, ⟨H0⟩⟩
  case round =>
    clear H0
    obtain ⟨i, hi, rfl, HX⟩ := hrel
    by_cases hlt : i < n5
    · obtain ⟨a5, r5, rfl, ⟨rfl, h5⟩, hA1⟩ := K5.out i _ (List.getElem?_eq_getElem (by have := N5.out; omega))
      obtain ⟨a6, r6, rfl, ⟨rfl, h6⟩, hA2⟩ := K6.out i _ (List.getElem?_eq_getElem (by have := N6.out; omega))
      generalize H[i]'(by have := N5.out; omega) = z at *
      generalize L[i]'(by have := N6.out; omega) = s at *
      have hB1 := Lib.hid hA1
      have hB2 := Lib.hid hA2
      have p0 : (0 : Int) ≤ i := by omega
      have p1 : decide ((i : Int) < n5) = true := by simpa using hlt
      have e0 := (hA1.below HX.out.b).c0
      rw [Nat.mul_one] at e0
      clear hA1 hA2
      cases d4 : (z != -1) with
      | false =>
        go_wp2_with fail
        go_quiet (fail)
        clear e0
        have HX6 := Lib.hid (HX.out.drewN nq)
        have y6 := HX6.out.c 6
        have y5 := HX6.out.c 5
        simp at y5 y6
        have f0 := (hB2.out.below HX6.out.b).c0
        have f1 := (hB1.out.below HX6.out.b).c0
        rw [Nat.mul_one] at f0 f1
        have cy := Lib.hid (cyclic6 _ _ _ (hh0.below HX6.out.b) i (by have := N5.out; omega))
        cases d7 : (!s.toList.isEmpty) <;> cases d8 : nmB s
        all_goals
          go_wp2_with (first | (go_at_call 79; refine (validName4 _ _).mono ?_; rintro r w' ⟨rfl, rfl⟩; rw [d8]) | (go_at_call 86; refine cy.out.mono ?_; rintro r w6 ⟨⟨b6, rfl⟩, rfl⟩))
          all_goals first
            | (go_ret2
               exact ⟨⟨_, _, rfl⟩, HX6.out.b⟩)
            | (go_roundg (gk - 1)
               case measure => omega
               case rel => exact ⟨i + 1, by omega, rfl, ⟨HX6.out⟩⟩)
      | true =>
        cases d5 : decide (z < 0) with
        | true =>
          go_wp2_with fail
          go_quiet (fail)
          go_wp2_with fail
          go_ret2
          exact ⟨⟨_, _, rfl⟩, (HX.out.drewN _).b⟩
        | false =>
          cases d6 : decide ((n5 : Int) ≤ z) with
          | true =>
            go_wp2_with fail
            go_quiet (fail)
            go_wp2_with fail
            go_ret2
            exact ⟨⟨_, _, rfl⟩, (HX.out.drewN _).b⟩
          | false =>
            go_wp2_with fail
            have hS := cp7 HX.out.drew
            clear e0
            go_region_held3 (fun w' => w'.cell? ⟨cb, 0, none⟩ = some (a) ∧ w'.cell? ⟨cb, 1, none⟩ = some (.slice A1 n1 c1) ∧ w'.cell? ⟨cb, 2, none⟩ = some (.slice A2 n2 c2) ∧ w'.cell? ⟨cb, 3, none⟩ = some (r) ∧ w'.cell? ⟨cb, 4, none⟩ = some (k) ∧ w'.cell? ⟨cb, 5, none⟩ = some (.slice (some a5) n5 c5) ∧ w'.cell? ⟨cb, 6, none⟩ = some (.slice (some a6) n5 c6) ∧ Aside (Bx w w' cb #[a, .slice A1 n1 c1, .slice A2 n2 c2, r, k, .slice (some a5) n5 c5, .slice (some a6) n5 c6] 30)) (first | exact hS | exact cp7 ((by assumption : _ ∧ _ ∧ _ ∧ _ ∧ _ ∧ _ ∧ _ ∧ Aside (Bx w _ cb #[a, .slice A1 n1 c1, .slice A2 n2 c2, r, k, .slice (some a5) n5 c5, .slice (some a6) n5 c6] 30)).2.2.2.2.2.2.2.out.up hb4))
              (first | (go_at_call 85; refine (textAt6 _ _ _ _ _ _ _ _ Z (hx0.below ((by assumption : _ ∧ _ ∧ _ ∧ _ ∧ _ ∧ _ ∧ _ ∧ Aside (Bx w _ cb #[a, .slice A1 n1 c1, .slice A2 n2 c2, r, k, .slice (some a5) n5 c5, .slice (some a6) n5 c6] 30)).2.2.2.2.2.2.2.out).b) _).mono ?_; rintro r w4 ⟨⟨z4, rfl⟩, hb4⟩))
            have HW := (by assumption : _ ∧ _ ∧ _ ∧ _ ∧ _ ∧ _ ∧ _ ∧ Aside (Bx w _ cb #[a, .slice A1 n1 c1, .slice A2 n2 c2, r, k, .slice (some a5) n5 c5, .slice (some a6) n5 c6] 30)).2.2.2.2.2.2.2.out
            clear hS
            have HX6 := Lib.hid HW
            have y6 := HX6.out.c 6
            have y5 := HX6.out.c 5
            simp at y5 y6
            have f0 := (hB2.out.below HX6.out.b).c0
            have f1 := (hB1.out.below HX6.out.b).c0
            rw [Nat.mul_one] at f0 f1
            have cy := Lib.hid (cyclic6 _ _ _ (hh0.below HX6.out.b) i (by have := N5.out; omega))
            cases d7 : (!s.toList.isEmpty) <;> cases d8 : nmB s
            all_goals
              go_wp2_with (first | (go_at_call 79; refine (validName4 _ _).mono ?_; rintro r w' ⟨rfl, rfl⟩; rw [d8]) | (go_at_call 86; refine cy.out.mono ?_; rintro r w6 ⟨⟨b6, rfl⟩, rfl⟩))
              all_goals first
                | (go_ret2
                   exact ⟨⟨_, _, rfl⟩, HX6.out.b⟩)
                | (go_roundg (gk - 1)
                   case measure => omega
                   case rel => exact ⟨i + 1, by omega, rfl, ⟨HX6.out⟩⟩)
    · have p1 : decide ((i : Int) < n5) = false := by simpa using hlt
      go_wp2
      go_ret2
      exact ⟨⟨_, _, rfl⟩, HX.out.b⟩
end Go.Proofs.YthjcmodhleoocaaGreatDoor.Z
/- ZNodes6 -/
namespace Go.Proofs.YthjcmodhleoocaaGreatDoor.Z
open Go Go.RowKit Go.Lib
set_option linter.unusedVariables false
set_option linter.unusedSimpArgs false
theorem mk27 {w : World} {ops : Array Oper} {rest : List Oper} {o : Oper} {a : Act} {Q : Exit → Act → World → Prop} (hg : o.guard = none) (l c : Operand) (hop : o.op = Op.makeSlice 27 l c)
    (n : Nat) (kl kc : IntKind) (hl : a.eval l = .int kl n) (hc : a.eval c = .int kc n) (hn : n ≤ 100000)
    (hK : ∀ w', w'.ownsRow w.heap.size 3 1 (.slice (some ⟨w.heap.size, 0, none⟩) n n) n (List.replicate n (.int .i64 0)) → w.grownBy w' none → wpList Tryz.prog ops Q rest (a.put o.dst (.slice (some ⟨w.heap.size, 0, none⟩) n n)) w') :
    wpList Tryz.prog ops Q (o :: rest) a w := by
  obtain ⟨i, h1, h2, h3, h4⟩ := info_parts (P := Tryz.prog) (e := 3) (z := .int .i64 0) (size := 1) (bytes := 8) (by kernel_rfl)
  refine wpList_make_full w hg l c 27 hop w.heap.size 3 i (.int .i64 0) 1 Tryz.underlying27 h1 h2 h3 kl kc n n n hl hc rfl rfl (by rw [h4]; omega) (by unfold maxLen; omega) (Nat.le_refl _) (fun w' h7 h8 => hK w' ?_ h8)
  rw [← toList_madeCells_one]
  rw [Nat.mul_one] at h7
  exact h7
theorem Bx.set {w0 w : World} {cb : Nat} {X : Array Value} {t : TypeId} (h : Bx w0 w cb X t) {p : Addr} (hp : cb ≠ p.block) (hb : w0.heap.size ≤ p.block) (u : Value) : Bx w0 (w.setCell p u) cb X t :=
  ⟨h.b.setCell hb u, blk_far h.x hp u⟩
theorem own_below {w w' : World} {base e size n : Nat} {v : Value} {xs : List Value} (h : w.ownsRow base e size v n xs) (hb : Below w.heap.size w w') : w'.ownsRow base e size v n xs :=
  own_move h fun k hk => hb.block k (h.lt k hk).2
/-- The row of depths: told for the first i nodes, v at the next one, 0 beyond. -/
structure DR (xs : List Value) (D : Nat → Int) (i n : Nat) (v : Int) : Prop where
  len : xs.length = n
  old : ∀ j, j < i → xs[j]? = some (.int .i64 (D j))
  at_ : i < n → xs[i]? = some (.int .i64 v)
  rest : ∀ j, i < j → j < n → xs[j]? = some (.int .i64 0)
theorem DR.start (n : Nat) : DR (List.replicate n (.int .i64 0)) (fun _ => 0) 0 n 0 :=
  ⟨by simp, fun j hj => by omega, fun h => by simp [h], fun j h1 h2 => by simp [h2]⟩
theorem DR.set {xs : List Value} {D : Nat → Int} {i n : Nat} {v : Int} (h : DR xs D i n v) (hi : i < n) (u : Int) : DR (xs.set i (.int .i64 u)) D i n u :=
  ⟨by simp [h.len], fun j hj => by rw [List.getElem?_set_ne (by omega)]; exact h.old j hj, fun _ => by rw [List.getElem?_set_self (by rw [h.len]; exact hi)], fun j h1 h2 => by rw [List.getElem?_set_ne (by omega)]; exact h.rest j h1 h2⟩
theorem DR.next {xs : List Value} {D : Nat → Int} {i n : Nat} {v : Int} (h : DR xs D i n v) (hi : i < n) : DR xs (fun j => if j = i then v else D j) (i + 1) n 0 :=
  ⟨h.len, fun j hj => by
    by_cases e : j = i
    · subst e; simp only [if_true]; exact h.at_ hi
    · simp only [if_neg e]; exact h.old j (by omega), fun h1 => h.rest (i + 1) (by omega) h1, fun j h1 h2 => h.rest j (by omega) h2⟩
set_option maxRecDepth 100000 in
set_option maxHeartbeats 64000000 in
theorem nodes6 (w : World) (kv a t x r k h l : Value) (N : List Nd) (Z : List Tx) (hN : Nds w kv N) (hx : Txs w x Z) :
    Calls Tryz.prog 56 #[kv, .agg #[a, t, x, r, k, h, l]] w fun r w' => (∃ y z, r = .returned (.tuple #[.int .i64 y, .int .i64 z]) ∧ (z = 0 → ∃ D, NdOk N Z D N.length)) ∧ Below w.heap.size w w' := by
  have hx0 := hx
  obtain ⟨A2, c2, rfl, g2, m2, R2⟩ := hx
  generalize Z.length = n2 at *
  clear R2
  obtain ⟨A, c, rfl, hnc, hcm, hR⟩ := hN
  have hn := lim_of hnc hcm
  obtain ⟨n, hnl⟩ : ∃ n, n = N.length := ⟨_, rfl⟩
  rw [← hnl]
  rw [← hnl] at hn
  have KN := Lib.hid hR
  clear hR hnc hcm
  have NN := Lib.hid hnl
  clear hnl
  cases d0 : decide ((2048 : Int) < n) with
  | true =>
    go_enter Tryz.func56, Tryz.ntmps56
    go_wp2
    go_ret2
    exact ⟨⟨_, _, rfl, fun h => absurd h (by decide)⟩, (Below.refl _ w).alloc (Nat.le_refl _) _⟩
  | false =>
  have hn2 : n ≤ 2048 := by have : ¬ (2048 : Int) < n := of_decide_eq_false d0
                            omega
  have H0 := Bx.new w #[a, t, .slice A2 n2 c2, r, k, h, l] 30
  go_enter Tryz.func56, Tryz.ntmps56
  go_wp2_with (at_make; refine mk27 rfl _ _ rfl n _ _ rfl rfl (by omega) ?_; intro w1 HO HG; rw [World.size_alloc] at HO)
  have HX1 : Bx w w1 w.heap.size #[a, t, .slice A2 n2 c2, r, k, h, l] 30 := H0.up (grown_below HG)
  obtain ⟨cb, hcb⟩ : ∃ cb, cb = w.heap.size := ⟨_, rfl⟩
  obtain ⟨db, hdb⟩ : ∃ db, db = w.heap.size + 1 := ⟨_, rfl⟩
  have HCD : Hid (w.heap.size ≤ cb ∧ cb < db) := Lib.hid ⟨by omega, by omega⟩
  rw [← hdb, ← hcb]
  rw [← hcb] at HX1
  rw [← hdb] at HO
  clear hcb hdb HG H0
  go_loopg [20] n (fun q v w' => ∃ i : Nat, ∃ D : Nat → Int, ∃ xs : List Value, i + q = n ∧ v = .int .i64 i ∧ Aside (Bx w w' cb #[a, t, .slice A2 n2 c2, r, k, h, l] 30) ∧ Aside (w'.ownsRow db 3 1 (.slice (some ⟨db, 0, none⟩) n n) n xs) ∧ Aside (DR xs D i n 0) ∧ Aside (NdOk N Z D i))
  case atStart => exact ⟨0, _, _, by omega, rfl, ⟨HX1⟩, ⟨HO⟩, ⟨DR.start n⟩, ⟨fun i x hi => by omega⟩⟩
  case round =>
    clear HX1 HO
    obtain ⟨i, D, xs, hi, rfl, HX, HO, HD, HOK⟩ := hrel
    by_cases hlt : i < n
    · have hNi : N[i]? = some (N[i]'(by have := NN.out; omega)) := List.getElem?_eq_getElem (by have := NN.out; omega)
      obtain ⟨a1, r1, rfl, ⟨rfl, hs1, hs2, hs3, hs4⟩, hA⟩ := KN.out i _ hNi
      generalize N[i]'(by have := NN.out; omega) = y at *
      have p0 : (0 : Int) ≤ i := by omega
      have p1 : decide ((i : Int) < n) = true := by simpa using hlt
      have hA1 := hA.below HX.out.b
      have e0 := hA1.c0
      have e1 := hA1.c1
      have e2 := hA1.c2
      have e3 := hA1.c3
      have HX2 := HX.out.alloc (.cells #[.string y.nm, .int .i64 y.b, .int .i64 y.e, .int .i64 y.p] 33)
      obtain ⟨j0, j1, j2, j3, j4, j5, j6, _⟩ := cp7 HX2
      have HT := blk_new wr (.cells #[.string y.nm, .int .i64 y.b, .int .i64 y.e, .int .i64 y.p] 33)
      have HO2 := HO.out.alloc (.cells #[.string y.nm, .int .i64 y.b, .int .i64 y.e, .int .i64 y.p] 33)
      clear hA hA1
      cases hM : nmB y.nm with
      | false =>
        go_wp2_with (go_at_call 79; refine (validName4 _ _).mono ?_; rintro r w' ⟨rfl, rfl⟩; rw [hM])
        go_ret2
        exact ⟨⟨_, _, rfl, fun h => absurd h (by decide)⟩, HX2.b⟩
      | true =>
        go_wp2_with (go_at_call 79; refine (validName4 _ _).mono ?_; rintro r w' ⟨rfl, rfl⟩; rw [hM])
        have hTL : wr.heap.size ≠ db := by
          have := (HO.out.lt db rfl).2
          omega
        obtain ⟨tb, htb⟩ : ∃ tb, tb = wr.heap.size := ⟨_, rfl⟩
        rw [← htb]
        rw [← htb] at HT hTL
        clear e0 e1 e2 e3 htb HX HO j0 j1 j2 j3 j4 j5 j6
        generalize wr.alloc (.cells #[.string y.nm, .int .i64 y.b, .int .i64 y.e, .int .i64 y.p] 33) = w2 at *
        refine (within6 _ _ _ _ _ _ _ _ Z (hx0.below HX2.b) _ _).mono ?_
        rintro r w3 ⟨rfl, HB3⟩
        have HX3 := HX2.up HB3
        have HT3 := blk_below HT HB3
        have HO3 := own_below HO2 HB3
        have x1 := blk_cell HT3 1
        have x2 := blk_cell HT3 2
        have x3 := blk_cell HT3 3
        simp at x1 x2 x3
        clear HX2 HT HB3 HO2
        cases hW : Z.any (hldB y.b y.e) with
        | false =>
          go_wp2_with fail
          go_ret2
          exact ⟨⟨_, _, rfl, fun h => absurd h (by decide)⟩, HX3.b⟩
        | true =>
          go_wp2_with fail
          have hrng := Lib.hid (HOK.out.rng (by have := NN.out; omega))
          go_loopg [9] i (fun q u w' => ∃ kk : Int, u = .int .i64 kk ∧ w' = w3 ∧ -1 ≤ kk ∧ kk < i ∧ kk + 1 = q ∧ Aside (∃ m, TP.up (psOf N) m ((i : Int) - 1) = kk))
          case atStart => exact ⟨(i : Int) - 1, rfl, rfl, by omega, by omega, by omega, ⟨0, rfl⟩⟩
          case round =>
            obtain ⟨kk, rfl, rfl, hk1, hk2, hk3, HCH⟩ := hrel
            by_cases hgo : 0 ≤ kk ∧ kk ≠ y.p
            · obtain ⟨hk0, hkp⟩ := hgo
              obtain ⟨j, rfl⟩ := Int.eq_ofNat_of_zero_le hk0
              have hNj : N[j]? = some (N[j]'(by have := NN.out; omega)) := List.getElem?_eq_getElem (by have := NN.out; omega)
              obtain ⟨a2, r2, ha2, ⟨rfl, _, _, _, _⟩, hA2⟩ := KN.out j _ hNj
              cases ha2
              generalize N[j]'(by have := NN.out; omega) = yj at *
              have f3 := (hA2.below HX3.b).c3
              have z1 : decide ((0 : Int) ≤ (j : Int)) = true := decide_eq_true hk0
              have z2 : ((j : Int) != y.p) = true := by simpa using hkp
              have z3 : decide ((j : Int) < n) = true := decide_eq_true (by omega)
              have z4 : (0 : Int) ≤ j := hk0
              have hr := hrng.out j (by omega)
              rw [rdi_ps hNj] at hr
              have hrd := rdi_ps hNj
              have HR2 := Lib.hid (And.intro hr hrd)
              clear hA2 hr hrd hNj hkp
              go_wp2_with fail
              go_roundg (yj.p + 1).toNat
              case measure => have := HR2.out.1; omega
              case rel => exact ⟨yj.p, rfl, rfl, by have := HR2.out.1; omega, by have := HR2.out.1; omega, by have := HR2.out.1; omega, ⟨by
                obtain ⟨m, hm⟩ := HCH.out
                exact ⟨m + 1, by rw [TP.up_out, hm, TP.stp_nn (by omega)]; exact HR2.out.2⟩⟩⟩
            · have hend : kk < 0 ∨ kk = y.p := by omega
              by_cases hbad : kk < 0 ∧ y.p ≠ -1
              · have z1 : decide ((0 : Int) ≤ kk) = false := decide_eq_false (by omega)
                have z2 : decide (kk < 0) = true := decide_eq_true hbad.1
                have z3 : (y.p != -1) = true := by simpa using hbad.2
                go_wp2_with fail
                go_ret2
                exact ⟨⟨_, _, rfl, fun h => absurd h (by decide)⟩, HX3.b⟩
              · have hkp : kk = y.p := by omega
                subst hkp
                have HCH := Lib.hid HCH.out
                have zz : (y.p != y.p) = false := by simp
                have HVD : Hid (0 ≤ y.p → 0 ≤ D y.p.toNat ∧ D y.p.toNat ≤ 40) := Lib.hid (fun hpos => by
                  have hj : y.p.toNat < i := by omega
                  have := HOK.out y.p.toNat _ hj (List.getElem?_eq_getElem (by have := NN.out; omega))
                  exact ⟨this.nn, this.lim⟩)
                have NXT := Lib.hid (fun v nest sib hv hl hn => HOK.out.step (v := v) hNi hM hW HCH.out nest sib (by omega) hv hl hn)
                clear hk3 hend hbad hNi HOK
                by_cases hpos : 0 ≤ y.p
                · have z1 : decide ((0 : Int) ≤ y.p) = true := decide_eq_true hpos
                  have z2 : decide (y.p < 0) = false := decide_eq_false (by omega)
                  have z3 : decide (y.p < n) = true := decide_eq_true (by omega)
                  have hNp : N[y.p.toNat]? = some (N[y.p.toNat]'(by have := NN.out; omega)) := List.getElem?_eq_getElem (by have := NN.out; omega)
                  obtain ⟨a2, r2, ha2, ⟨rfl, _, _, _, _⟩, hA2⟩ := KN.out y.p.toNat _ hNp
                  cases ha2
                  generalize N[y.p.toNat]'(by have := NN.out; omega) = yp at *
                  have hA3 := hA2.below HX3.b
                  have f0 := hA3.c0
                  have f1 := hA3.c1
                  have f2 := hA3.c2
                  have f3 := hA3.c3
                  have PR : Array Value := #[.string yp.nm, .int .i64 yp.b, .int .i64 yp.e, .int .i64 yp.p]
                  clear PR
                  have HX4 := HX3.alloc (.cells #[.string yp.nm, .int .i64 yp.b, .int .i64 yp.e, .int .i64 yp.p] 33)
                  have HT4 := blk_alloc HT3 (.cells #[.string yp.nm, .int .i64 yp.b, .int .i64 yp.e, .int .i64 yp.p] 33)
                  have HO4 := HO3.alloc (.cells #[.string yp.nm, .int .i64 yp.b, .int .i64 yp.e, .int .i64 yp.p] 33)
                  have m1 := blk_cell HT4 1
                  have m2' := blk_cell HT4 2
                  have m3 := blk_cell HT4 3
                  simp at m1 m2' m3
                  have k0 := (HO4.cellAt y.p.toNat (by omega)).trans (HD.out.old y.p.toNat (by omega))
                  have k1 := (HO4.cellAt i (by omega)).trans (HD.out.at_ hlt)
                  have k2 := HO4.frozenAt i
                  clear hA2 hA3
                  cases d5 : decide (y.b < yp.b) with
                  | true =>
                    go_wp2_with fail
                    go_ret2
                    exact ⟨⟨_, _, rfl, fun h => absurd h (by decide)⟩, HX4.b⟩
                  | false =>
                    cases d6 : decide (yp.e < y.e) with
                    | true =>
                      go_wp2_with fail
                      go_ret2
                      exact ⟨⟨_, _, rfl, fun h => absurd h (by decide)⟩, HX4.b⟩
                    | false =>
                      have NEST : Hid (∀ y', 0 ≤ y.p → N[y.p.toNat]? = some y' → y'.b ≤ y.b ∧ y.e ≤ y'.e) := Lib.hid (fun y' _ h => by
                        rw [hNp] at h; cases h
                        have h1 : ¬ y.b < yp.b := of_decide_eq_false d5
                        have h2 : ¬ yp.e < y.e := of_decide_eq_false d6
                        omega)
                      clear hNp
                      have HV : Hid (0 ≤ D y.p.toNat ∧ D y.p.toNat ≤ 40) := Lib.hid (HVD.out hpos)
                      go_wp2_with fail
                      obtain ⟨v0, hv0⟩ : ∃ v0, v0 = D y.p.toNat := ⟨_, rfl⟩
                      have HVQ : Hid (v0 = (if 0 ≤ y.p then D y.p.toNat else 0)) := Lib.hid (by rw [if_pos hpos]; exact hv0)
                      rw [← hv0] at HV ⊢
                      have HOS := (HO4.stored i (.int .i64 v0)).1
                      have HXS := HX4.set (p := ⟨db, i, none⟩) (by have := HCD.out; show cb ≠ db; omega) (by have := HCD.out; show w.heap.size ≤ db; omega) (.int .i64 v0)
                      have HTS := blk_far HT4 (p := ⟨db, i, none⟩) hTL (.int .i64 v0)
                      have HDS := HD.out.set hlt v0
                      obtain ⟨xsS, hxs⟩ : ∃ l, l = xs.set i (.int .i64 v0) := ⟨_, rfl⟩
                      rw [← hxs] at HOS HDS
                      clear hv0 hxs f0 f1 f2 f3 m1 m2' m3 k0 k1 k2 x1 x2 x3 HX4 HT4 HO4 HX3 HT3 HO3 z2 z3 d5 d6
                      generalize (wr.alloc (.cells #[.string yp.nm, .int .i64 yp.b, .int .i64 yp.e, .int .i64 yp.p] 33)).setCell ⟨db, i, none⟩ (.int .i64 v0) = wS at *
                      have x1 := blk_cell HTS 1
                      have x2 := blk_cell HTS 2
                      have x3 := blk_cell HTS 3
                      simp at x1 x2 x3
                      go_loopg [11] i (fun q u w' => ∃ kn, q ≤ i ∧ u = .int .i64 ((q : Int) - 1) ∧ w' = wS.drewN kn ∧ Aside (∀ s' y', q ≤ s' → s' < i → N[s']? = some y' → y'.p ≠ y.p))
                      case atStart => exact ⟨0, by omega, rfl, rfl, ⟨fun s' y' h1 h2 => by omega⟩⟩
                      case round =>
                        obtain ⟨kn, hq, rfl, rfl, HM⟩ := hrel
                        by_cases hz : 0 < gk
                        · obtain ⟨a4, r4, ha4, ⟨rfl, hs4⟩, hA4⟩ := KN.out (gk - 1) _ (List.getElem?_eq_getElem (by have := NN.out; omega))
                          cases ha4
                          have hsI : N[gk - 1]? = some (N[gk - 1]'(by have := NN.out; omega)) := List.getElem?_eq_getElem (by have := NN.out; omega)
                          generalize N[gk - 1]'(by have := NN.out; omega) = ys at *
                          have hA5 := hA4.below HXS.b
                          have f1 := hA5.c1
                          have f2 := hA5.c2
                          have f3 := hA5.c3
                          have z0 : (0 : Int) ≤ (gk : Int) - 1 := by omega
                          have z1 : decide ((0 : Int) ≤ (gk : Int) - 1) = true := decide_eq_true z0
                          have z2 : decide ((gk : Int) - 1 < n) = true := decide_eq_true (by omega)
                          have z3 : ((gk : Int) - 1).toNat = gk - 1 := by omega
                          have z5 : (gk : Int) - 1 < (n : Int) := by omega
                          have hsI := Lib.hid hsI
                          clear hA4 hA5
                          cases d7 : (ys.p == y.p) with
                          | false =>
                            have hne : ys.p ≠ y.p := by simpa using d7
                            have hne := Lib.hid hne
                            go_wp2_with fail
                            go_quiet (fail)
                            go_wp2_with fail
                            go_roundg (gk - 1)
                            case measure => omega
                            case rel => exact ⟨_, by omega, by rw [show (((gk - 1 : Nat) : Int)) = (gk : Int) - 1 by omega], rfl, ⟨fun s' y' h1 h2 h3 => by
                              by_cases e : s' = gk - 1
                              · subst e; rw [hsI.out] at h3; cases h3; exact hne.out
                              · exact HM.out s' y' (by omega) h2 h3⟩⟩
                          | true =>
                            have heq : ys.p = y.p := by simpa using d7
                            have heq := Lib.hid heq
                            cases d8 : decide (y.b < ys.e) with
                            | true =>
                              go_wp2_with fail
                              go_quiet (fail)
                              revert nq
                              intro nqa
                              go_wp2_with fail
                              go_quiet (fail)
                              go_wp2_with fail
                              go_ret2
                              exact ⟨⟨_, _, rfl, fun h => absurd h (by decide)⟩, (((HXS.drewN kn).drewN nqa).drewN nq).b⟩
                            | false =>
                              go_wp2_with fail
                              go_quiet (fail)
                              revert nq
                              intro nqa
                              go_wp2_with fail
                              go_quiet (fail)
                              have HS : Aside (∀ s y2, s < i → N[s]? = some y2 → y2.p = y.p → (∀ s' y', s < s' → s' < i → N[s']? = some y' → y'.p ≠ y.p) → y2.e ≤ y.b) := ⟨fun s y2 h1 h2 h3 h4 => by
                                have hse : s = gk - 1 := by
                                  rcases Nat.lt_trichotomy s (gk - 1) with h | h | h
                                  · exact absurd heq.out (h4 (gk - 1) ys h (by omega) hsI.out)
                                  · exact h
                                  · exact absurd h3 (HM.out s y2 (by omega) h1 h2)
                                subst hse
                                rw [hsI.out] at h2; cases h2
                                have : ¬ y.b < ys.e := of_decide_eq_false d8
                                omega⟩
                              have HXF := ((HXS.drewN kn).drewN nqa).drewN nq
                              clear f1 f2 f3
                              obtain ⟨wF, hwF⟩ : ∃ wF, wF = ((wS.drewN kn).drewN nqa).drewN nq := ⟨_, rfl⟩
                              rw [← hwF] at HXF ⊢
                              have HOF : wF.ownsRow db 3 1 (.slice (some ⟨db, 0, none⟩) n n) n xsS := by rw [hwF]; exact HOS
                              clear hwF
                              have q0 := (HOF.cellAt i (by omega)).trans (HDS.at_ hlt)
                              have q1 := HOF.frozenAt i
                              have HO5 := (HOF.stored i (.int .i64 (v0 + 1))).1
                              have HX5 := HXF.set (p := ⟨db, i, none⟩) (by have := HCD.out; show cb ≠ db; omega) (by have := HCD.out; show w.heap.size ≤ db; omega) (.int .i64 (v0 + 1))
                              have HD5 := HDS.set hlt (v0 + 1)
                              have hwr : wrap64 (v0 + 1) = v0 + 1 := by have := HV.out; unfold wrap64; omega
                              have hwr2 : IntKind.i64.wrap (v0 + 1) = v0 + 1 := by have := HV.out; exact IntWalk.i64_in _ (by omega)
                              have q2 := HO5.cellAt i (by omega)
                              rw [HD5.at_ hlt] at q2
                              have R5 := Lib.hid (And.intro HO5 (And.intro HX5 HD5))
                              clear HO5 HX5 HD5 HOF HXF
                              cases d9 : decide ((40 : Int) < v0 + 1) with
                              | true =>
                                go_wp2_with fail
                                go_ret2
                                exact ⟨⟨_, _, rfl, fun h => absurd h (by decide)⟩, R5.out.2.1.b⟩
                              | false =>
                                go_wp2_with fail
                                have h40 : v0 + 1 ≤ 40 := by have : ¬ (40 : Int) < v0 + 1 := of_decide_eq_false d9
                                                             omega
                                go_roundg (n - (i + 1))
                                case measure => omega
                                case rel => exact ⟨i + 1, _, _, by omega, rfl, ⟨R5.out.2.1⟩, ⟨R5.out.1⟩, ⟨R5.out.2.2.next hlt⟩, ⟨NXT.out v0 NEST.out HS.out HVQ.out h40 (HV.out).1⟩⟩
                        · have hz0 : gk = 0 := by omega
                          have HS : Aside (∀ s y2, s < i → N[s]? = some y2 → y2.p = y.p → (∀ s' y', s < s' → s' < i → N[s']? = some y' → y'.p ≠ y.p) → y2.e ≤ y.b) := ⟨fun s y2 h1 h2 h3 h4 => absurd h3 (HM.out s y2 (by omega) h1 h2)⟩
                          have z1 : decide ((0 : Int) ≤ (gk : Int) - 1) = false := decide_eq_false (by omega)
                          have HXF := HXS.drewN kn
                          obtain ⟨wF, hwF⟩ : ∃ wF, wF = wS.drewN kn := ⟨_, rfl⟩
                          rw [← hwF] at HXF ⊢
                          have HOF : wF.ownsRow db 3 1 (.slice (some ⟨db, 0, none⟩) n n) n xsS := by rw [hwF]; exact HOS
                          clear hwF
                          have q0 := (HOF.cellAt i (by omega)).trans (HDS.at_ hlt)
                          have q1 := HOF.frozenAt i
                          have HO5 := (HOF.stored i (.int .i64 (v0 + 1))).1
                          have HX5 := HXF.set (p := ⟨db, i, none⟩) (by have := HCD.out; show cb ≠ db; omega) (by have := HCD.out; show w.heap.size ≤ db; omega) (.int .i64 (v0 + 1))
                          have HD5 := HDS.set hlt (v0 + 1)
                          have hwr : wrap64 (v0 + 1) = v0 + 1 := by have := HV.out; unfold wrap64; omega
                          have hwr2 : IntKind.i64.wrap (v0 + 1) = v0 + 1 := by have := HV.out; exact IntWalk.i64_in _ (by omega)
                          have q2 := HO5.cellAt i (by omega)
                          rw [HD5.at_ hlt] at q2
                          have R5 := Lib.hid (And.intro HO5 (And.intro HX5 HD5))
                          clear HO5 HX5 HD5 HOF HXF
                          cases d9 : decide ((40 : Int) < v0 + 1) with
                          | true =>
                            go_wp2_with fail
                            go_ret2
                            exact ⟨⟨_, _, rfl, fun h => absurd h (by decide)⟩, R5.out.2.1.b⟩
                          | false =>
                            go_wp2_with fail
                            have h40 : v0 + 1 ≤ 40 := by have : ¬ (40 : Int) < v0 + 1 := of_decide_eq_false d9
                                                         omega
                            go_roundg (n - (i + 1))
                            case measure => omega
                            case rel => exact ⟨i + 1, _, _, by omega, rfl, ⟨R5.out.2.1⟩, ⟨R5.out.1⟩, ⟨R5.out.2.2.next hlt⟩, ⟨NXT.out v0 NEST.out HS.out HVQ.out h40 (HV.out).1⟩⟩
                · have z1 : decide ((0 : Int) ≤ y.p) = false := decide_eq_false hpos
                  have z2 : decide (y.p < 0) = true := decide_eq_true (by omega)
                  have z3 : (y.p != -1) = false := by simp; omega
                  have NEST : Hid (∀ y', 0 ≤ y.p → N[y.p.toNat]? = some y' → y'.b ≤ y.b ∧ y.e ≤ y'.e) := Lib.hid (fun y' h => absurd h hpos)
                  obtain ⟨v0, hv0⟩ : ∃ v0 : Int, v0 = 0 := ⟨_, rfl⟩
                  have HV : Hid (0 ≤ v0 ∧ v0 ≤ 40) := Lib.hid (by omega)
                  have HVQ : Hid (v0 = (if 0 ≤ y.p then D y.p.toNat else 0)) := Lib.hid (by rw [if_neg hpos]; exact hv0)
                  go_wp2_with fail
                  have HDS := HD.out
                  rw [← hv0] at HDS
                  clear hv0
                  have HOS := HO3
                  have HXS := HX3
                  obtain ⟨xsS, hxs⟩ : ∃ l, l = xs := ⟨_, rfl⟩
                  rw [← hxs] at HOS HDS
                  clear hxs
                  obtain ⟨wS, hwS⟩ : ∃ wS, wS = wr := ⟨_, rfl⟩
                  rw [← hwS] at HOS HXS x1 x2 x3 ⊢
                  clear hwS
                  go_loopg [11] i (fun q u w' => ∃ kn, q ≤ i ∧ u = .int .i64 ((q : Int) - 1) ∧ w' = wS.drewN kn ∧ Aside (∀ s' y', q ≤ s' → s' < i → N[s']? = some y' → y'.p ≠ y.p))
                  case atStart => exact ⟨0, by omega, rfl, rfl, ⟨fun s' y' h1 h2 => by omega⟩⟩
                  case round =>
                    obtain ⟨kn, hq, rfl, rfl, HM⟩ := hrel
                    by_cases hz : 0 < gk
                    · obtain ⟨a4, r4, ha4, ⟨rfl, hs4⟩, hA4⟩ := KN.out (gk - 1) _ (List.getElem?_eq_getElem (by have := NN.out; omega))
                      cases ha4
                      have hsI : N[gk - 1]? = some (N[gk - 1]'(by have := NN.out; omega)) := List.getElem?_eq_getElem (by have := NN.out; omega)
                      generalize N[gk - 1]'(by have := NN.out; omega) = ys at *
                      have hA5 := hA4.below HXS.b
                      have f1 := hA5.c1
                      have f2 := hA5.c2
                      have f3 := hA5.c3
                      have z0 : (0 : Int) ≤ (gk : Int) - 1 := by omega
                      have z1 : decide ((0 : Int) ≤ (gk : Int) - 1) = true := decide_eq_true z0
                      have z2 : decide ((gk : Int) - 1 < n) = true := decide_eq_true (by omega)
                      have z3 : ((gk : Int) - 1).toNat = gk - 1 := by omega
                      have z5 : (gk : Int) - 1 < (n : Int) := by omega
                      have hsI := Lib.hid hsI
                      clear hA4 hA5
                      cases d7 : (ys.p == y.p) with
                      | false =>
                        have hne : ys.p ≠ y.p := by simpa using d7
                        have hne := Lib.hid hne
                        go_wp2_with fail
                        go_quiet (fail)
                        go_wp2_with fail
                        go_roundg (gk - 1)
                        case measure => omega
                        case rel => exact ⟨_, by omega, by rw [show (((gk - 1 : Nat) : Int)) = (gk : Int) - 1 by omega], rfl, ⟨fun s' y' h1 h2 h3 => by
                          by_cases e : s' = gk - 1
                          · subst e; rw [hsI.out] at h3; cases h3; exact hne.out
                          · exact HM.out s' y' (by omega) h2 h3⟩⟩
                      | true =>
                        have heq : ys.p = y.p := by simpa using d7
                        have heq := Lib.hid heq
                        cases d8 : decide (y.b < ys.e) with
                        | true =>
                          go_wp2_with fail
                          go_quiet (fail)
                          revert nq
                          intro nqa
                          go_wp2_with fail
                          go_quiet (fail)
                          go_wp2_with fail
                          go_ret2
                          exact ⟨⟨_, _, rfl, fun h => absurd h (by decide)⟩, (((HXS.drewN kn).drewN nqa).drewN nq).b⟩
                        | false =>
                          go_wp2_with fail
                          go_quiet (fail)
                          revert nq
                          intro nqa
                          go_wp2_with fail
                          go_quiet (fail)
                          have HS : Aside (∀ s y2, s < i → N[s]? = some y2 → y2.p = y.p → (∀ s' y', s < s' → s' < i → N[s']? = some y' → y'.p ≠ y.p) → y2.e ≤ y.b) := ⟨fun s y2 h1 h2 h3 h4 => by
                            have hse : s = gk - 1 := by
                              rcases Nat.lt_trichotomy s (gk - 1) with h | h | h
                              · exact absurd heq.out (h4 (gk - 1) ys h (by omega) hsI.out)
                              · exact h
                              · exact absurd h3 (HM.out s y2 (by omega) h1 h2)
                            subst hse
                            rw [hsI.out] at h2; cases h2
                            have : ¬ y.b < ys.e := of_decide_eq_false d8
                            omega⟩
                          have HXF := ((HXS.drewN kn).drewN nqa).drewN nq
                          clear f1 f2 f3
                          obtain ⟨wF, hwF⟩ : ∃ wF, wF = ((wS.drewN kn).drewN nqa).drewN nq := ⟨_, rfl⟩
                          rw [← hwF] at HXF ⊢
                          have HOF : wF.ownsRow db 3 1 (.slice (some ⟨db, 0, none⟩) n n) n xsS := by rw [hwF]; exact HOS
                          clear hwF
                          have q0 := (HOF.cellAt i (by omega)).trans (HDS.at_ hlt)
                          have q1 := HOF.frozenAt i
                          have HO5 := (HOF.stored i (.int .i64 (v0 + 1))).1
                          have HX5 := HXF.set (p := ⟨db, i, none⟩) (by have := HCD.out; show cb ≠ db; omega) (by have := HCD.out; show w.heap.size ≤ db; omega) (.int .i64 (v0 + 1))
                          have HD5 := HDS.set hlt (v0 + 1)
                          have hwr : wrap64 (v0 + 1) = v0 + 1 := by have := HV.out; unfold wrap64; omega
                          have hwr2 : IntKind.i64.wrap (v0 + 1) = v0 + 1 := by have := HV.out; exact IntWalk.i64_in _ (by omega)
                          have q2 := HO5.cellAt i (by omega)
                          rw [HD5.at_ hlt] at q2
                          have R5 := Lib.hid (And.intro HO5 (And.intro HX5 HD5))
                          clear HO5 HX5 HD5 HOF HXF
                          cases d9 : decide ((40 : Int) < v0 + 1) with
                          | true =>
                            go_wp2_with fail
                            go_ret2
                            exact ⟨⟨_, _, rfl, fun h => absurd h (by decide)⟩, R5.out.2.1.b⟩
                          | false =>
                            go_wp2_with fail
                            have h40 : v0 + 1 ≤ 40 := by have : ¬ (40 : Int) < v0 + 1 := of_decide_eq_false d9
                                                         omega
                            go_roundg (n - (i + 1))
                            case measure => omega
                            case rel => exact ⟨i + 1, _, _, by omega, rfl, ⟨R5.out.2.1⟩, ⟨R5.out.1⟩, ⟨R5.out.2.2.next hlt⟩, ⟨NXT.out v0 NEST.out HS.out HVQ.out h40 (HV.out).1⟩⟩
                    · have hz0 : gk = 0 := by omega
                      have HS : Aside (∀ s y2, s < i → N[s]? = some y2 → y2.p = y.p → (∀ s' y', s < s' → s' < i → N[s']? = some y' → y'.p ≠ y.p) → y2.e ≤ y.b) := ⟨fun s y2 h1 h2 h3 h4 => absurd h3 (HM.out s y2 (by omega) h1 h2)⟩
                      have z1 : decide ((0 : Int) ≤ (gk : Int) - 1) = false := decide_eq_false (by omega)
                      have HXF := HXS.drewN kn
                      obtain ⟨wF, hwF⟩ : ∃ wF, wF = wS.drewN kn := ⟨_, rfl⟩
                      rw [← hwF] at HXF ⊢
                      have HOF : wF.ownsRow db 3 1 (.slice (some ⟨db, 0, none⟩) n n) n xsS := by rw [hwF]; exact HOS
                      clear hwF
                      have q0 := (HOF.cellAt i (by omega)).trans (HDS.at_ hlt)
                      have q1 := HOF.frozenAt i
                      have HO5 := (HOF.stored i (.int .i64 (v0 + 1))).1
                      have HX5 := HXF.set (p := ⟨db, i, none⟩) (by have := HCD.out; show cb ≠ db; omega) (by have := HCD.out; show w.heap.size ≤ db; omega) (.int .i64 (v0 + 1))
                      have HD5 := HDS.set hlt (v0 + 1)
                      have hwr : wrap64 (v0 + 1) = v0 + 1 := by have := HV.out; unfold wrap64; omega
                      have hwr2 : IntKind.i64.wrap (v0 + 1) = v0 + 1 := by have := HV.out; exact IntWalk.i64_in _ (by omega)
                      have q2 := HO5.cellAt i (by omega)
                      rw [HD5.at_ hlt] at q2
                      have R5 := Lib.hid (And.intro HO5 (And.intro HX5 HD5))
                      clear HO5 HX5 HD5 HOF HXF
                      cases d9 : decide ((40 : Int) < v0 + 1) with
                      | true =>
                        go_wp2_with fail
                        go_ret2
                        exact ⟨⟨_, _, rfl, fun h => absurd h (by decide)⟩, R5.out.2.1.b⟩
                      | false =>
                        go_wp2_with fail
                        have h40 : v0 + 1 ≤ 40 := by have : ¬ (40 : Int) < v0 + 1 := of_decide_eq_false d9
                                                     omega
                        go_roundg (n - (i + 1))
                        case measure => omega
                        case rel => exact ⟨i + 1, _, _, by omega, rfl, ⟨R5.out.2.1⟩, ⟨R5.out.1⟩, ⟨R5.out.2.2.next hlt⟩, ⟨NXT.out v0 NEST.out HS.out HVQ.out h40 (HV.out).1⟩⟩
    · have p1 : decide ((i : Int) < n) = false := by simpa using hlt
      have hni : i = n := by omega
      have HZ := Lib.hid (hni ▸ HOK.out)
      go_wp2_with fail
      go_ret2
      exact ⟨⟨_, _, rfl, fun _ => ⟨D, HZ.out⟩⟩, HX.out.b⟩
end Go.Proofs.YthjcmodhleoocaaGreatDoor.Z
/- ZCmp6 -/
namespace Go.Proofs.YthjcmodhleoocaaGreatDoor.Z
open Go Go.RowKit Go.Lib
set_option linter.unusedVariables false
set_option linter.unusedSimpArgs false
def cmpV (s t : ByteArray) : Int := if Op.bytesLess s.toList t.toList then -1 else if s.toList == t.toList then 0 else 1
theorem compareV (s t : ByteArray) (w : World) : Calls Tryz.prog 105 #[.string s, .string t] w fun r w' => r = .returned (.int .i64 (cmpV s t)) ∧ w' = w := by
  unfold cmpV
  cases d1 : Op.bytesLess s.toList t.toList <;> cases d2 : (s.toList == t.toList) <;>
  · go_enter Tryz.func105, Tryz.ntmps105
    go_wp2
    go_ret
    exact ⟨rfl, rfl⟩
set_option maxRecDepth 100000 in
set_option maxHeartbeats 8000000 in
theorem cmpReg6 (w : World) (x y : Tx) (u v : Value) (hu : Ks w u x.ks) (hv : Ks w v y.ks) :
    Calls Tryz.prog 83 #[.agg #[.string x.nm, .int .i64 x.b, .int .i64 x.e, u], .agg #[.string y.nm, .int .i64 y.b, .int .i64 y.e, v]] w fun r w' => RetI r ∧ Below w.heap.size w w' := by
  obtain ⟨A, c, rfl, hnc, hcm, hR⟩ := hu
  obtain ⟨A2, c2, rfl, hnc2, hcm2, hR2⟩ := hv
  have b1 := lim_of hnc hcm
  have b2 := lim_of hnc2 hcm2
  obtain ⟨n, hn⟩ : ∃ n, n = x.ks.length := ⟨_, rfl⟩
  obtain ⟨n2, hn2⟩ : ∃ n, n = y.ks.length := ⟨_, rfl⟩
  rw [← hn] at b1 ⊢
  rw [← hn2] at b2 ⊢
  have N := Lib.hid hn
  have N2 := Lib.hid hn2
  have K := Lib.hid hR
  have K2 := Lib.hid hR2
  clear hn hn2 hR hR2 hnc hcm hnc2 hcm2
  have HB : Below w.heap.size w ((w.alloc (.cells #[.string x.nm, .int .i64 x.b, .int .i64 x.e, .slice A n c] 78)).alloc (.cells #[.string y.nm, .int .i64 y.b, .int .i64 y.e, .slice A2 n2 c2] 78)) := ((Below.refl _ w).alloc (Nat.le_refl _) _).alloc (by simp) _
  cases d1 : (x.b != y.b) with
  | true =>
    cases d2 : decide (x.b < y.b) <;>
    · go_enter Tryz.func83, Tryz.ntmps83
      go_wp2_with (go_at_call 104; refine (sign6 _ _).mono ?_; rintro r w' ⟨⟨z, rfl⟩, rfl⟩)
      go_ret
      exact ⟨⟨_, rfl⟩, HB⟩
  | false =>
    cases d2 : (x.e != y.e) with
    | true =>
      cases d3 : decide (y.e < x.e) <;>
      · go_enter Tryz.func83, Tryz.ntmps83
        go_wp2_with (go_at_call 104; refine (sign6 _ _).mono ?_; rintro r w' ⟨⟨z, rfl⟩, rfl⟩)
        go_ret
        exact ⟨⟨_, rfl⟩, HB⟩
    | false =>
      cases d3 : (x.nm.toList == y.nm.toList) with
      | false =>
        go_enter Tryz.func83, Tryz.ntmps83
        go_wp2_with (go_at_call 105; refine (compareV _ _ _).mono ?_; rintro r w' ⟨rfl, rfl⟩)
        go_ret
        exact ⟨⟨_, rfl⟩, HB⟩
      | true =>
        have HB := Lib.hid HB
        go_enter Tryz.func83, Tryz.ntmps83
        go_wp2_with fail
        have Y1 := blk_alloc (blk_new w (.cells #[.string x.nm, .int .i64 x.b, .int .i64 x.e, .slice A n c] 78)) (.cells #[.string y.nm, .int .i64 y.b, .int .i64 y.e, .slice A2 n2 c2] 78)
        have Y2 := blk_new (w.alloc (.cells #[.string x.nm, .int .i64 x.b, .int .i64 x.e, .slice A n c] 78)) (.cells #[.string y.nm, .int .i64 y.b, .int .i64 y.e, .slice A2 n2 c2] 78)
        rw [World.size_alloc] at Y2
        have W1 := Lib.hid Y1
        have W2 := Lib.hid Y2
        clear Y1 Y2
        generalize ((w.alloc (.cells #[.string x.nm, .int .i64 x.b, .int .i64 x.e, .slice A n c] 78)).alloc (.cells #[.string y.nm, .int .i64 y.b, .int .i64 y.e, .slice A2 n2 c2] 78)) = w2 at *
        have f1 := blk_cell W1.out 3
        have f2 := blk_cell W2.out 3
        simp at f1 f2
        go_loopg [5] n (fun q v w' => ∃ i : Nat, i + q = n ∧ v = .int .i64 i ∧ ∃ k, w' = w2.drewN k)
        case atStart => exact ⟨0, by omega, rfl, 0, rfl⟩
        case round =>
          obtain ⟨i, hi, rfl, k, rfl⟩ := hrel
          have p0 : (0 : Int) ≤ i := by omega
          by_cases hlt : i < n
          · have p1 : decide ((i : Int) < n) = true := by simpa using hlt
            by_cases hlt2 : i < n2
            · have p2 : decide ((i : Int) < n2) = true := by simpa using hlt2
              obtain ⟨a, r, rfl, ⟨rfl, h3, h4⟩, hA⟩ := K.out i _ (List.getElem?_eq_getElem (by have := N.out; omega))
              obtain ⟨a2, r2, rfl, ⟨rfl, h5, h6⟩, hA2⟩ := K2.out i _ (List.getElem?_eq_getElem (by have := N2.out; omega))
              generalize x.ks[i]'(by have := N.out; omega) = s at *
              generalize y.ks[i]'(by have := N2.out; omega) = t at *
              have hA1 := hA.below HB.out
              have hB1 := hA2.below HB.out
              have e0 := hA1.c0
              have e1 := hA1.c1
              have e2 := hB1.c0
              have e3 := hB1.c1
              clear hA hA2 hA1 hB1
              cases q1 : (s.1.toList == t.1.toList) with
              | false =>
                go_wp2_with fail
                go_quiet (fail)
                go_wp2_with fail
                go_quiet ((go_at_call 105; exact (compareV _ _ _).mono fun _ _ ⟨h1, h2⟩ => ⟨h1, _, h2⟩))
                go_wp2_with fail
                go_ret
                exact ⟨⟨_, rfl⟩, bdrewN (bdrewN (bdrewN HB.out _) _) _⟩
              | true =>
                cases q2 : (s.2.toList == t.2.toList) with
                | false =>
                  go_wp2_with fail
                  go_quiet (fail)
                  go_wp2_with fail
                  go_quiet (fail)
                  go_wp2_with fail
                  go_quiet ((go_at_call 105; exact (compareV _ _ _).mono fun _ _ ⟨h1, h2⟩ => ⟨h1, _, h2⟩))
                  go_wp2_with fail
                  go_ret
                  exact ⟨⟨_, rfl⟩, bdrewN (bdrewN (bdrewN (bdrewN HB.out _) _) _) _⟩
                | true =>
                  go_wp2_with fail
                  go_quiet (fail)
                  go_wp2_with fail
                  go_quiet (fail)
                  go_wp2_with fail
                  go_roundg (gk - 1)
                  case measure => omega
                  case rel => exact ⟨i + 1, by omega, rfl, _, rfl⟩
            · have p2 : decide ((i : Int) < n2) = false := by simpa using hlt2
              cases q1 : ((n : Int) != n2) with
              | false =>
                go_wp2
                go_ret
                exact ⟨⟨_, rfl⟩, bdrewN HB.out _⟩
              | true =>
                cases q2 : decide ((n : Int) < n2) <;>
                · go_wp2_with (go_at_call 104; refine (sign6 _ _).mono ?_; rintro r w' ⟨⟨z, rfl⟩, rfl⟩)
                  go_ret
                  exact ⟨⟨_, rfl⟩, bdrewN HB.out _⟩
          · have p1 : decide ((i : Int) < n) = false := by simpa using hlt
            cases q1 : ((n : Int) != n2) with
            | false =>
              go_wp2
              go_ret
              exact ⟨⟨_, rfl⟩, bdrewN HB.out _⟩
            | true =>
              cases q2 : decide ((n : Int) < n2) <;>
              · go_wp2_with (go_at_call 104; refine (sign6 _ _).mono ?_; rintro r w' ⟨⟨z, rfl⟩, rfl⟩)
                go_ret
                exact ⟨⟨_, rfl⟩, bdrewN HB.out _⟩
end Go.Proofs.YthjcmodhleoocaaGreatDoor.Z
/- ZUnit4 -/
namespace Go.Proofs.YthjcmodhleoocaaGreatDoor.Z
open Go Go.RowKit Go.Lib
set_option linter.unusedVariables false
set_option linter.unusedSimpArgs false
theorem el164 : El 164 167 4 32 := .mk' (z := .agg #[.int .i32 0, .int .i64 0, .int .i64 0, .bool false]) Tryz.underlying164 (by kernel_rfl) rfl (by omega) (by omega)
/-- Rows of four cells: a rune, two numbers, a flag. -/
def UR (xs : List Value) (n : Nat) : Prop := xs.length = n * 4 ∧ ∀ i, i < n → ∃ (a b c : Int) (d : Bool), xs[i * 4]? = some (.int .i32 a) ∧ xs[i * 4 + 1]? = some (.int .i64 b) ∧ xs[i * 4 + 2]? = some (.int .i64 c) ∧ xs[i * 4 + 3]? = some (.bool d)
theorem UR.app {xs : List Value} {n : Nat} (h : UR xs n) (a b c : Int) (d : Bool) : UR (xs ++ [.int .i32 a, .int .i64 b, .int .i64 c, .bool d]) (n + 1) := by
  refine ⟨by simp [h.1]; omega, fun i hi => ?_⟩
  by_cases e : i < n
  · obtain ⟨a', b', c', d', h1, h2, h3, h4⟩ := h.2 i e
    have hl := h.1
    exact ⟨a', b', c', d', by rw [List.getElem?_append_left (by omega)]; exact h1, by rw [List.getElem?_append_left (by omega)]; exact h2, by rw [List.getElem?_append_left (by omega)]; exact h3, by rw [List.getElem?_append_left (by omega)]; exact h4⟩
  · obtain rfl : i = n := by omega
    have hl := h.1
    refine ⟨a, b, c, d, ?_, ?_, ?_, ?_⟩ <;> rw [List.getElem?_append_right (by omega), hl]
    · rw [show i * 4 - i * 4 = 0 by omega]; rfl
    · rw [show i * 4 + 1 - i * 4 = 1 by omega]; rfl
    · rw [show i * 4 + 2 - i * 4 = 2 by omega]; rfl
    · rw [show i * 4 + 3 - i * 4 = 3 by omega]; rfl
theorem UR.set2 {xs : List Value} {n : Nat} (h : UR xs n) (i : Nat) (z : Int) : UR (xs.set (i * 4 + 2) (.int .i64 z)) n := by
  refine ⟨by simpa using h.1, fun j hj => ?_⟩
  obtain ⟨a, b, c, d, h1, h2, h3, h4⟩ := h.2 j hj
  have hl := h.1
  by_cases e : i = j
  · subst e
    refine ⟨a, b, z, d, ?_, ?_, ?_, ?_⟩ <;> rw [List.getElem?_set] <;> simp <;> first | assumption | omega | (split <;> first | assumption | omega)
  · refine ⟨a, b, c, d, ?_, ?_, ?_, ?_⟩ <;> rw [List.getElem?_set, if_neg (by omega)] <;> assumption
theorem UR.set3 {xs : List Value} {n : Nat} (h : UR xs n) (i : Nat) (z : Bool) : UR (xs.set (i * 4 + 3) (.bool z)) n := by
  refine ⟨by simpa using h.1, fun j hj => ?_⟩
  obtain ⟨a, b, c, d, h1, h2, h3, h4⟩ := h.2 j hj
  have hl := h.1
  by_cases e : i = j
  · subst e
    refine ⟨a, b, c, z, ?_, ?_, ?_, ?_⟩ <;> rw [List.getElem?_set] <;> simp <;> first | assumption | omega | (split <;> first | assumption | omega)
  · refine ⟨a, b, c, d, ?_, ?_, ?_, ?_⟩ <;> rw [List.getElem?_set, if_neg (by omega)] <;> assumption
theorem blk_new' (w : World) (o : Obj) {n : Nat} (h : n = w.heap.size) : (w.alloc o).heap[n]? = some o := h ▸ blk_new w o
theorem put_below {B : Nat} {w w1 : World} {k : Nat} (h : Below B w w1) (hk : B ≤ k) (o : Obj) : Below B w (w1.putObj k o) :=
  ⟨h.os, h.tape, h.output, by rw [World.putObj_size]; exact h.size, fun j hj => by rw [World.putObj_heap_other (by omega), h.block j hj]⟩
set_option maxRecDepth 100000 in
set_option maxHeartbeats 8000000 in
theorem units4 (s : ByteArray) (hs : s.size ≤ 1000) (w : World) : Calls Tryz.prog 128 #[.string s] w fun r w' => ∃ v n xs, r = .returned v ∧ n ≤ s.size ∧ (n = 0 → v = .slice none 0 0) ∧ w'.ownsRow (w.heap.size + 1) 167 4 v n xs ∧ UR xs n ∧ Below w.heap.size w w' := by
  go_enter Tryz.func128, Tryz.ntmps128
  go_wp2
  go_loopg [3] s.size (fun q v w' => ∃ n xs pos, pos + q = s.size ∧ n ≤ pos ∧ (n = 0 → v = .slice none 0 0) ∧ Aside (w'.heap[w.heap.size]? = some (.stringIter s pos)) ∧ Aside (w'.ownsRow (w.heap.size + 1) 167 4 v n xs) ∧ Aside (UR xs n) ∧ Aside (Below w.heap.size w w'))
  case atStart => exact ⟨0, [], 0, by omega, by omega, fun _ => rfl, ⟨World.iter_heap w s 0⟩, ⟨World.ownsRow_nil _ _ _ _⟩, ⟨rfl, fun i hi => by omega⟩, ⟨(Below.refl _ w).alloc (Nat.le_refl _) _⟩⟩
  case round =>
    obtain ⟨n, xs, pos, hq, hn, hz, HI, HO, HU, HB⟩ := hrel
    by_cases hp : pos < s.size
    · have hpos := width_pos s pos
      have hle := width_le s pos hp
      have hnx : ∀ ty, (Instr.next (.pointer (some ⟨w.heap.size, 0, none⟩)) true ty).run Tryz.prog wr = _ := fun ty => run_next_at wr _ s pos ty HI.out hp
      have hi2 := World.putObj_heap_same (w := wr) (o := .stringIter s (pos + (Utf8.decode s pos).2)) (blk_lt HI.out)
      have ho2 : (wr.putObj w.heap.size (.stringIter s (pos + (Utf8.decode s pos).2))).ownsRow (w.heap.size + 1) 167 4 u3 n xs := own_move HO.out fun k hk => World.putObj_heap_other (by have := (HO.out.lt k hk).1; omega)
      have hb2 : Below w.heap.size w (wr.putObj w.heap.size (.stringIter s (pos + (Utf8.decode s pos).2))) := put_below HB.out (Nat.le_refl _) _
      obtain ⟨w2, hw2⟩ : ∃ w2, wr.putObj w.heap.size (.stringIter s (pos + (Utf8.decode s pos).2)) = w2 := ⟨_, rfl⟩
      rw [hw2] at hnx hi2 ho2 hb2
      clear hw2 HB HO HI
      generalize (Utf8.decode s pos).1 = rn at *
      obtain ⟨wd, hwd⟩ : ∃ wd, wd = (Utf8.decode s pos).2 := ⟨_, rfl⟩
      rw [← hwd] at hpos hle hi2
      clear hwd
      have HI := Lib.hid hi2
      have HB := Lib.hid hb2
      clear hi2 hb2
      cases n with
      | zero =>
        obtain rfl := hz rfl
        obtain rfl : xs = [] := List.length_eq_zero_iff.1 (by simpa using ho2.1)
        clear ho2
        have HL := Lib.hid (blk_lt HI.out)
        go_wp2_with (at_builtin; refine app el164 rfl _ _ rfl (w.heap.size + 1) rfl (World.ownsRow_nil _ _ _ _) ⟨_, 0, none⟩ 1 1 [.int .i32 rn, .int .i64 pos, .int .i64 0, .bool false] rfl rfl (World.news_of_block (blk_new _ _)) (fun u hu => by simp at hu; rcases hu with rfl | rfl | rfl | rfl <;> rfl) (by omega) (by have := HL.out; simp; omega) ?_; intro v' w5 h7 h8)
        have hi5 := (h8.block w.heap.size (by have := HL.out; simp; omega) (fun e => nomatch e)).trans (blk_alloc HI.out _)
        have hb5 := (HB.out.alloc (by have := HL.out; omega) (.cells #[.int .i32 rn, .int .i64 pos, .int .i64 0, .bool false] 167)).grown h8 (by have := HL.out; simp; omega) (fun k hk => nomatch hk)
        go_roundg (s.size - (pos + wd))
        case measure => omega
        case rel => exact ⟨1, _, pos + wd, by omega, by omega, fun h => absurd h (by omega), ⟨hi5⟩, ⟨h7⟩, ⟨HU.out.app _ _ _ _⟩, ⟨hb5⟩⟩
      | succ m =>
        obtain ⟨g, cap, rfl, hg1, hg2⟩ := own_form ho2
        have g0 : (0 : Int) ≤ m := by omega
        obtain ⟨a, b, c, d, r0, r1, r2, r3⟩ := HU.out.2 m (by omega)
        have hl := HU.out.1
        have q1 := (ho2.cellAt (m * 4 + 1) (by omega)).trans r1
        have q2 := ho2.frozenAt (m * 4 + 2)
        have q3 := (ho2.cellAt (m * 4 + 2) (by omega)).trans r2
        have HG1 := Lib.hid hg1
        have HO := Lib.hid ho2
        have HL := Lib.hid (blk_lt HI.out)
        clear hg1 ho2 r0 r1 r2 r3 hg2 hl hz
        go_wp2_with (at_builtin; refine app el164 rfl _ _ rfl (w.heap.size + 1) rfl ((HO.out.stored (m * 4 + 2) _).1.alloc _) ⟨_, 0, none⟩ 1 1 [.int .i32 rn, .int .i64 pos, .int .i64 0, .bool false] rfl rfl (World.news_of_block (blk_new' _ _ (by simp))) (fun u hu => by simp at hu; rcases hu with rfl | rfl | rfl | rfl <;> rfl) (by omega) (by have := HL.out; simp; omega) ?_; intro v' w5 h7 h8)
        have hi4 := (Below.heap_setCell w2 ⟨g, m * 4 + 2, none⟩ (.int .i64 (wrap64 (pos - b))) w.heap.size (by have := HG1.out; simp; omega)).trans HI.out
        have hi5 := (h8.block w.heap.size (by have := HL.out; simp; omega) (fun hk => by have := HG1.out; have e : w.heap.size = g := Option.some.inj hk; omega)).trans (blk_alloc hi4 (.cells #[.int .i32 rn, .int .i64 pos, .int .i64 0, .bool false] 167))
        have hb5 := ((HB.out.setCell (p := ⟨g, m * 4 + 2, none⟩) (by have := HG1.out; simp; omega) (.int .i64 (wrap64 (pos - b)))).alloc (by have := HL.out; simp; omega) (.cells #[.int .i32 rn, .int .i64 pos, .int .i64 0, .bool false] 167)).grown h8 (by have := HL.out; simp; omega) (fun k hk => by have := HG1.out; have e : g = k := Option.some.inj hk; omega)
        go_roundg (s.size - (pos + wd))
        case measure => omega
        case rel => exact ⟨m + 2, _, pos + wd, by omega, by omega, fun h => absurd h (by omega), ⟨hi5⟩, ⟨h7⟩, ⟨(HU.out.set2 m _).app _ _ _ _⟩, ⟨hb5⟩⟩
    · have hnx : ∀ ty, (Instr.next (.pointer (some ⟨w.heap.size, 0, none⟩)) true ty).run Tryz.prog wr = .ok (.tuple #[.bool false]) wr := fun ty => run_next_over wr _ s pos ty HI.out hp
      cases n with
      | zero =>
        obtain rfl := hz rfl
        go_wp2
        go_loopg [58] 0 (fun q v w' => v = .int .i64 0 ∧ w' = wr)
        case atStart => exact ⟨rfl, rfl⟩
        case round =>
          obtain ⟨rfl, rfl⟩ := hrel
          go_wp2
          go_ret
          exact ⟨_, 0, xs, rfl, by omega, fun _ => rfl, HO.out, HU.out, HB.out⟩
      | succ m =>
        obtain ⟨g, cap, rfl, hg1, hg2⟩ := own_form HO.out
        have g0 : (0 : Int) ≤ m := by omega
        obtain ⟨a, b, c, d, r0, r1, r2, r3⟩ := HU.out.2 m (by omega)
        have hl := HU.out.1
        have q1 := (HO.out.cellAt (m * 4 + 1) (by omega)).trans r1
        have q2 := HO.out.frozenAt (m * 4 + 2)
        have q3 := (HO.out.cellAt (m * 4 + 2) (by omega)).trans r2
        have HG1 := Lib.hid hg1
        clear hg1 r0 r1 r2 r3 hg2 hl hz
        go_wp2
        have HO2 := (HO.out.stored (m * 4 + 2) (.int .i64 (wrap64 (s.size - b)))).1
        have HB2 := HB.out.setCell (p := ⟨g, m * 4 + 2, none⟩) (by have := HG1.out; simp; omega) (.int .i64 (wrap64 (s.size - b)))
        have HU2 := HU.out.set2 m (wrap64 (s.size - b))
        clear q1 q2 q3 HO HB HU HI
        go_loopg [58] (m + 1) (fun q v w' => ∃ i : Nat, ∃ xs, i + q = m + 1 ∧ v = .int .i64 i ∧ Aside (w'.ownsRow (w.heap.size + 1) 167 4 (.slice (some ⟨g, 0, none⟩) (m + 1) cap) (m + 1) xs) ∧ Aside (UR xs (m + 1)) ∧ Aside (Below w.heap.size w w'))
        case atStart => exact ⟨0, _, by omega, rfl, ⟨HO2⟩, ⟨HU2⟩, ⟨HB2⟩⟩
        case round =>
          clear HO2 HB2 HU2 hnx
          obtain ⟨i, ys, hi, rfl, HO, HU, HB⟩ := hrel
          by_cases hlt : i < m + 1
          · have p0 : (0 : Int) ≤ i := by omega
            have p1 : decide ((i : Int) < ((m + 1 : Nat) : Int)) = true := by simp; omega
            have p2 : decide ((i : Int) < (m : Int) + 1) = true := by simp; omega
            obtain ⟨a, b, c, d, r0, r1, r2, r3⟩ := HU.out.2 i (by omega)
            have hl := HU.out.1
            have q0 := (HO.out.cellAt (i * 4) (by omega)).trans r0
            have q2 := (HO.out.cellAt (i * 4 + 2) (by omega)).trans r2
            have q3 := (HO.out.cellAt (i * 4 + 3) (by omega)).trans r3
            have q4 := HO.out.frozenAt (i * 4 + 3)
            clear r0 r1 r2 r3 hl
            have hO := fun z => (HO.out.stored (i * 4 + 3) (.bool z)).1
            have hB := fun z => HB.out.setCell (p := ⟨g, i * 4 + 3, none⟩) (by have := HG1.out; simp; omega) (.bool z)
            have hO := Lib.hid hO
            have hB := Lib.hid hB
            cases d1 : (a != 65533) with
            | true =>
              go_wp2
              go_roundg (gk - 1)
              case measure => omega
              case rel => exact ⟨i + 1, _, by omega, rfl, ⟨hO.out _⟩, ⟨HU.out.set3 i _⟩, ⟨hB.out _⟩⟩
            | false =>
              go_wp2
              go_roundg (gk - 1)
              case measure => omega
              case rel => exact ⟨i + 1, _, by omega, rfl, ⟨hO.out _⟩, ⟨HU.out.set3 i _⟩, ⟨hB.out _⟩⟩
          · have p1 : decide ((i : Int) < ((m + 1 : Nat) : Int)) = false := by simp; omega
            have p2 : decide ((i : Int) < (m : Int) + 1) = false := by simp; omega
            go_wp2
            go_ret
            exact ⟨_, m + 1, ys, rfl, by omega, fun h => absurd h (by omega), HO.out, HU.out, HB.out⟩
theorem own_sliceN {w : World} {base e size n : Nat} {v : Value} {xs : List Value} (h : w.ownsRow base e size v n xs) (hz : n = 0 → v = .slice none 0 0) : ∃ A cap, v = .slice A n cap ∧ (0 < n → ∃ g, A = some ⟨g, 0, none⟩ ∧ base ≤ g ∧ g < w.heap.size) := by
  cases n with
  | zero => exact ⟨none, 0, hz rfl, fun h => absurd h (by omega)⟩
  | succ m =>
    obtain ⟨g, cap, rfl, h1, h2⟩ := own_form h
    exact ⟨_, cap, rfl, fun _ => ⟨g, rfl, h1, h2⟩⟩
set_option maxRecDepth 100000 in
set_option maxHeartbeats 4000000 in
theorem valid01 (s : ByteArray) (hs : s.size ≤ 1000) (w : World) : Calls Tryz.prog 118 #[.string s] w fun r w' => RetB r ∧ Below w.heap.size w w' := by
  go_enter Tryz.func118, Tryz.ntmps118
  go_wp2_with (go_at_call 128; refine (units4 s hs w).mono ?_; rintro r w1 ⟨v, n, xs, rfl, hn, hz, HO, HU, HB⟩; obtain ⟨A, cap, rfl, hA⟩ := own_sliceN HO hz; replace hA := Lib.hid hA; replace HO := Lib.hid HO; replace HU := Lib.hid HU; replace HB := Lib.hid HB; clear hz)
  go_loopg [8] n (fun q v w' => ∃ i : Nat, i + q = n ∧ v = .int .i64 i ∧ Aside (Below w1.heap.size w1 w'))
  case atStart => exact ⟨0, by omega, rfl, ⟨Below.refl _ _⟩⟩
  case round =>
    obtain ⟨i, hi, rfl, HB2⟩ := hrel
    by_cases hlt : i < n
    · have p0 : (0 : Int) ≤ i := by omega
      have p1 : decide ((i : Int) < n) = true := by simp; omega
      obtain ⟨g, rfl, hg1, hg2⟩ := hA.out (by omega)
      obtain ⟨a, b, c, d, r0, r1, r2, r3⟩ := HU.out.2 i (by omega)
      have hl := HU.out.1
      have q0 := (HB2.out.cell (p := ⟨g, i * 4, none⟩) hg2).trans ((HO.out.cellAt (i * 4) (by omega)).trans r0)
      have q1 := (HB2.out.cell (p := ⟨g, i * 4 + 1, none⟩) hg2).trans ((HO.out.cellAt (i * 4 + 1) (by omega)).trans r1)
      have q2 := (HB2.out.cell (p := ⟨g, i * 4 + 2, none⟩) hg2).trans ((HO.out.cellAt (i * 4 + 2) (by omega)).trans r2)
      have q3 := (HB2.out.cell (p := ⟨g, i * 4 + 3, none⟩) hg2).trans ((HO.out.cellAt (i * 4 + 3) (by omega)).trans r3)
      clear r0 r1 r2 r3 hl
      cases d with
      | true =>
        go_wp2
        go_roundg (gk - 1)
        case measure => omega
        case rel => exact ⟨i + 1, by omega, rfl, ⟨HB2.out.alloc HB2.out.size _⟩⟩
      | false =>
        go_wp2
        go_ret
        exact ⟨⟨_, rfl⟩, HB.out.trans ((HB2.out.alloc HB2.out.size _).mono HB.out.size)⟩
    · have p1 : decide ((i : Int) < n) = false := by simp; omega
      go_wp2
      go_ret
      exact ⟨⟨_, rfl⟩, HB.out.trans (HB2.out.mono HB.out.size)⟩
set_option maxRecDepth 100000 in
set_option maxHeartbeats 4000000 in
theorem value04 (s : ByteArray) (w : World) : Calls Tryz.prog 103 #[.string s] w fun r w' => RetI r ∧ Below w.heap.size w w' := by
  by_cases hs : s.size ≤ 120
  · have k1 : decide ((120 : Int) < s.size) = false := by simp; omega
    go_enter Tryz.func103, Tryz.ntmps103
    go_wp2_with (go_at_call 118; refine (valid01 s (by omega) w).mono ?_; rintro r w1 ⟨⟨b, rfl⟩, HB⟩; have hcv := Go.Lib.run_convert_string_bytes (P := Tryz.prog) w1 9 64 5 s Tryz.underlying9 Tryz.underlying64 Tryz.underlying5; have hb2 : Below w1.heap.size w1 (bytesWorld w1 5 s) := ⟨rfl, rfl, rfl, by rw [bytesWorld_size]; omega, fun k hk => bytesWorld_at_old w1 5 s k hk⟩; have hcl := bytesWorld_cell w1 5 s; have HC := Lib.hid hcl; have HB2 := Lib.hid (HB.trans (hb2.mono HB.size)); clear hb2 hcl; generalize bytesWorld w1 5 s = w2 at *; generalize grownCap w1 s.size 0 5 = cap at *)
    · go_ret
      exact ⟨⟨_, rfl⟩, HB⟩
    · clear HB

      go_loopg [14] s.size (fun q v w' => ∃ i : Nat, i + q = s.size ∧ v = .int .i64 i ∧ w' = w2)
      case atStart => exact ⟨0, by omega, rfl, rfl⟩
      case round =>
        obtain ⟨i, hi, rfl, rfl⟩ := hrel
        by_cases hlt : i < s.size
        · have p0 : (0 : Int) ≤ i := by omega
          have p1 : decide ((i : Int) < s.size) = true := by simp; omega
          have e1 := HC.out i hlt
          generalize (s.data.toList.getD i 0).toNat = c at *
          cases d1 : decide ((c : Int) < 32) with
          | true =>
            go_wp2
            go_ret
            exact ⟨⟨_, rfl⟩, HB2.out⟩
          | false =>
            cases d2 : ((c : Int) == 127) with
            | true =>
              go_wp2
              go_ret
              exact ⟨⟨_, rfl⟩, HB2.out⟩
            | false =>
              go_wp2
              go_roundg (gk - 1)
              case measure => omega
              case rel => exact ⟨i + 1, by omega, rfl, rfl⟩
        · have p1 : decide ((i : Int) < s.size) = false := by simp; omega
          go_wp2
          go_ret
          exact ⟨⟨_, rfl⟩, HB2.out⟩
  · have k1 : decide ((120 : Int) < s.size) = true := by simp; omega
    go_enter Tryz.func103, Tryz.ntmps103
    go_wp2
    go_ret
    exact ⟨⟨_, rfl⟩, Below.refl _ _⟩
end Go.Proofs.YthjcmodhleoocaaGreatDoor.Z
