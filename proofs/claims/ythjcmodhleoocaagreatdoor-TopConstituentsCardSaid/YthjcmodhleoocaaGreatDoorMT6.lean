/- For every corpus that comes in, TopConstituents returns true and leaves the corpus as it was; the listed variables are tied to the program's text. (Part 6.) -/
import Derived.Test.YthjcmodhleoocaaGreatDoorMT5
import Derived.Test.YthjcmodhleoocaaGreatDoorMT4
import Derived.Laws.DeepStrings4
import Derived.Test.YthjcmodhleoocaaGreatDoorMT3
set_option linter.unusedVariables false
set_option linter.unusedSimpArgs false
set_option linter.unusedSectionVars false
/- ZPairs6 -/
namespace Go.Proofs.YthjcmodhleoocaaGreatDoor.Z
open Go Go.RowKit Go.Lib
set_option linter.unusedVariables false
set_option linter.unusedSimpArgs false
set_option maxRecDepth 100000 in
set_option maxHeartbeats 4000000 in
theorem pairs6 (w : World) (v : Value) (l : List (ByteArray × ByteArray)) (h : Ks w v l) : Calls Tryz.prog 81 #[v] w fun r w' => RetI r ∧ Below w.heap.size w w' := by
  obtain ⟨A, c, rfl, hnc, hcm, hR⟩ := h
  have hn := lim_of hnc hcm
  generalize hl : l.length = n at *
  have HR := Lib.hid hR
  clear hR hnc hcm
  cases d0 : decide ((8 : Int) < n) with
  | true =>
    go_enter Tryz.func81, Tryz.ntmps81
    go_wp2
    go_ret
    exact ⟨⟨_, rfl⟩, Below.refl _ _⟩
  | false =>
    go_enter Tryz.func81, Tryz.ntmps81
    go_wp2
    go_loopg [11] n (fun q v w' => ∃ i : Nat, i + q = n ∧ v = .int .i64 i ∧ Aside (Below w.heap.size w w'))
    case atStart => exact ⟨0, by omega, rfl, ⟨Below.refl _ _⟩⟩
    case round =>
      obtain ⟨i, hi, rfl, HB⟩ := hrel
      by_cases hlt : i < n
      · obtain ⟨a, r, rfl, ⟨rfl, h3, h4⟩, hA⟩ := HR.out i _ (List.getElem?_eq_getElem (by omega))
        generalize l[i]'(by omega) = y at *
        have p0 : (0 : Int) ≤ i := by omega
        have p1 : decide ((i : Int) < n) = true := by simpa using hlt
        have hA1 := hA.below HB.out
        have e0 := hA1.c0
        have e1 := hA1.c1
        clear hA hA1
        cases hN : nmB y.1 with
        | false =>
          go_wp2_with (go_at_call 79; refine (validName4 _ _).mono ?_; rintro r w' ⟨rfl, rfl⟩; rw [hN])
          go_ret
          exact ⟨⟨_, rfl⟩, HB.out.alloc HB.out.size _⟩
        | true =>
          go_wp2_with (go_at_call 79; refine (validName4 _ _).mono ?_; rintro r w' ⟨rfl, rfl⟩; rw [hN])
          have HX := blk_new wr (.cells #[.string y.1, .string y.2] 105)
          have HB2 := Lib.hid (HB.out.alloc HB.out.size (.cells #[.string y.1, .string y.2] 105))
          obtain ⟨cb, hcb⟩ : ∃ cb, cb = wr.heap.size := ⟨_, rfl⟩
          rw [← hcb]
          rw [← hcb] at HX
          generalize wr.alloc (.cells #[.string y.1, .string y.2] 105) = w2 at *
          have x0 := blk_cell HX 0
          have x1 := blk_cell HX 1
          simp at x0 x1
          clear e0 e1 HX hcb
          cases i with
          | zero =>
            go_quiet (fail)
            go_wp2_with (go_at_call 103; refine (value04 _ _).mono ?_; rintro r w3 ⟨⟨z, rfl⟩, HB3⟩)
            · go_ret
              exact ⟨⟨_, rfl⟩, (bdrewN HB2.out _).trans (HB3.mono HB2.out.size)⟩
            · go_roundg (gk - 1)
              case measure => omega
              case rel => exact ⟨1, by omega, rfl, ⟨(bdrewN HB2.out _).trans (HB3.mono HB2.out.size)⟩⟩
          | succ m =>
            obtain ⟨a', r, ha', ⟨rfl, h5, h6⟩, hA⟩ := HR.out m _ (List.getElem?_eq_getElem (by omega))
            cases ha'
            generalize l[m]'(by omega) = y' at *
            have f0 := (hA.below HB2.out).c0
            have p2 : decide ((m : Int) < n) = true := decide_eq_true (by omega)
            have p3 : (0 : Int) ≤ m := by omega
            have p4 : decide ((0 : Int) < ((m + 1 : Nat) : Int)) = true := decide_eq_true (by omega)
            have p5 : decide ((0 : Int) < (m : Int) + 1) = true := decide_eq_true (by omega)
            clear hA
            cases d1 : Op.bytesLess y'.1.toList y.1.toList with
            | false =>
              go_quiet (fail)
              go_wp2
              go_ret
              exact ⟨⟨_, rfl⟩, bdrewN HB2.out _⟩
            | true =>
              go_quiet (fail)
              go_wp2_with (go_at_call 103; refine (value04 _ _).mono ?_; rintro r w3 ⟨⟨z, rfl⟩, HB3⟩)
              · go_ret
                exact ⟨⟨_, rfl⟩, (bdrewN HB2.out _).trans (HB3.mono HB2.out.size)⟩
              · go_roundg (gk - 1)
                case measure => omega
                case rel => exact ⟨m + 2, by omega, rfl, ⟨(bdrewN HB2.out _).trans (HB3.mono HB2.out.size)⟩⟩
      · have p1 : decide ((i : Int) < n) = false := by simpa using hlt
        go_wp2
        go_ret
        exact ⟨⟨_, rfl⟩, HB.out⟩
end Go.Proofs.YthjcmodhleoocaaGreatDoor.Z
/- ZRegs6 -/
namespace Go.Proofs.YthjcmodhleoocaaGreatDoor.Z
open Go Go.RowKit Go.Lib
set_option linter.unusedVariables false
set_option linter.unusedSimpArgs false
set_option maxRecDepth 100000 in
set_option maxHeartbeats 32000000 in
theorem regions6 (w : World) (a t x r k h l : Value) (Z G : List Tx) (hx : Txs w x Z) (hr : Txs w r G) :
    Calls Tryz.prog 55 #[.agg #[a, t, x, r, k, h, l]] w fun r w' => RetP r ∧ Below w.heap.size w w' := by
  have hx0 := hx
  obtain ⟨A2, c2, rfl, g2, m2, R2⟩ := hx
  have b2 := lim_of g2 m2
  have gc2 := g2
  obtain ⟨n2, hn2⟩ : ∃ n, n = Z.length := ⟨_, rfl⟩
  rw [← hn2] at b2 gc2 ⊢
  have K2 := Lib.hid R2
  clear R2 g2 m2
  have N2 := Lib.hid hn2
  clear hn2
  obtain ⟨A3, c3, rfl, g3, m3, R3⟩ := hr
  have b3 := lim_of g3 m3
  have gc3 := g3
  obtain ⟨n3, hn3⟩ : ∃ n, n = G.length := ⟨_, rfl⟩
  rw [← hn3] at b3 gc3 ⊢
  have K3 := Lib.hid R3
  clear R3 g3 m3
  have N3 := Lib.hid hn3
  clear hn3
  have hx0 : Txs w (.slice A2 n2 c2) Z := by rw [N2.out]; exact hx0
  cases d0 : decide ((1024 : Int) < n3) with
  | true =>
    go_enter Tryz.func55, Tryz.ntmps55
    go_wp2
    go_ret2
    exact ⟨⟨_, _, rfl⟩, (Below.refl _ w).alloc (Nat.le_refl _) _⟩
  | false =>
  have hn1024 : n3 ≤ 1024 := by have : ¬ (1024 : Int) < n3 := of_decide_eq_false d0
                                omega
  have H0 := Bx.new w #[a, t, .slice A2 n2 c2, .slice A3 n3 c3, k, h, l] 30
  go_enter Tryz.func55, Tryz.ntmps55
  go_wp2_with fail
  obtain ⟨cb, hcb⟩ : ∃ cb, cb = w.heap.size := ⟨_, rfl⟩
  rw [← hcb]
  rw [← hcb] at H0
  clear hcb
  generalize w.alloc (.cells #[a, t, .slice A2 n2 c2, .slice A3 n3 c3, k, h, l] 30) = w1 at *
  go_loopg [17] n3 (fun q v w' => ∃ i : Nat, i + q = n3 ∧ v = .int .i64 i ∧ Aside (Bx w w' cb #[a, t, .slice A2 n2 c2, .slice A3 n3 c3, k, h, l] 30))
  case atStart => exact ⟨0, by omega, rfl, ⟨H0⟩⟩
  case round =>
    clear H0
    obtain ⟨i, hi, rfl, HX⟩ := hrel
    by_cases hlt : i < n3
    · obtain ⟨a3, r3, rfl, ⟨u, rfl, hK, hs, hb, he⟩, hA⟩ := K3.out i _ (List.getElem?_eq_getElem (by have := N3.out; omega))
      generalize G[i]'(by have := N3.out; omega) = y at *
      have p0 : (0 : Int) ≤ i := by omega
      have p1 : decide ((i : Int) < n3) = true := by simpa using hlt
      have p2 : (i : Int) + 1 ≤ c3 := by omega
      have p2' : (0 : Int) ≤ (i : Int) + 1 := by omega
      have hA1 := hA.below HX.out.b
      have e0 := hA1.c0
      have e1 := hA1.c1
      have e2 := hA1.c2
      have e3 := hA1.c3
      have hK1 := hK
      obtain ⟨B, cB, rfl, RB⟩ := hK
      generalize hm : y.ks.length = m at *
      have HX2 := HX.out.alloc (.cells #[.string y.nm, .int .i64 y.b, .int .i64 y.e, .slice B m cB] 78)
      obtain ⟨g0, g1, g2, g3, g4, g5, g6, _⟩ := cp7 HX2
      have HT := blk_new wr (.cells #[.string y.nm, .int .i64 y.b, .int .i64 y.e, .slice B m cB] 78)
      have HK := Lib.hid hK1
      clear hA hA1 RB hK1
      cases hN : nmB y.nm with
      | false =>
        go_wp2_with (go_at_call 79; refine (validName4 _ _).mono ?_; rintro r w' ⟨rfl, rfl⟩; rw [hN])
        go_ret2
        exact ⟨⟨_, _, rfl⟩, HX2.b⟩
      | true =>
        go_wp2_with (go_at_call 79; refine (validName4 _ _).mono ?_; rintro r w' ⟨rfl, rfl⟩; rw [hN])
        obtain ⟨tb, htb⟩ : ∃ tb, tb = wr.heap.size := ⟨_, rfl⟩
        rw [← htb]
        rw [← htb] at HT
        clear e0 e1 e2 e3 htb HX g0 g1 g2 g3 g4 g5 g6
        generalize wr.alloc (.cells #[.string y.nm, .int .i64 y.b, .int .i64 y.e, .slice B m cB] 78) = w2 at *
        refine (within6 _ _ _ _ _ _ _ _ Z (hx0.below HX2.b) _ _).mono ?_
        rintro r w3 ⟨rfl, HB3⟩
        have HX3 := HX2.up HB3
        have HT3 := blk_below HT HB3
        have x3 := blk_cell HT3 3
        simp at x3
        clear HX2 HT HB3
        cases hq : Z.any (hldB y.b y.e) with
        | false =>
          go_wp2_with fail
          go_ret2
          exact ⟨⟨_, _, rfl⟩, HX3.b⟩
        | true =>
          have cpair := Lib.hid (pairs6 _ _ _ (HK.out.below HX3.b))
          go_wp2_with fail
          refine cpair.out.mono ?_
          rintro r w4 ⟨⟨z, rfl⟩, HB4⟩
          have HX4 := HX3.up HB4
          have HT4 := blk_below HT3 HB4
          have q0 := blk_cell HT4 0
          have q1 := blk_cell HT4 1
          have q2 := blk_cell HT4 2
          have q3 := blk_cell HT4 3
          have cc3 := HX4.c 3
          simp at q0 q1 q2 q3 cc3
          clear x3 HX3 HT3 HB4 cpair
          cases dz : (z != 0) with
          | true =>
            go_wp2_with fail
            go_ret2
            exact ⟨⟨_, _, rfl⟩, HX4.b⟩
          | false =>
            go_wp2_with fail
            by_cases h0 : 0 < i
            case neg =>
              go_quiet (fail)
              have HX5 := HX4.drewN nq
              have HT5 := blk_drewN HT4 nq
              clear HX4 HT4
              go_wp2_with fail
              clear q0 q1 q2 q3 cc3
              go_loopg [7, 64] (i + 1) (fun q u v w' => ∃ z : Int, ∃ j : Nat, j + q = i + 1 ∧ u = .int .i64 z ∧ v = .int .i64 j ∧ Aside (Bx w w' cb #[a, t, .slice A2 n2 c2, .slice (some a3) n3 c3, k, h, l] 30) ∧ Aside (w'.heap[tb]? = some (.cells #[.string y.nm, .int .i64 y.b, .int .i64 y.e, .slice B m cB] 78 (0, 0))))
              case atStart => exact ⟨0, 0, by omega, rfl, rfl, ⟨HX5⟩, ⟨HT5⟩⟩
              case round =>
                clear HX5 HT5
                obtain ⟨z, j, hj, rfl, rfl, HX, HT⟩ := hrel
                by_cases hlt2 : j < i + 1
                · obtain ⟨a2, r2, ha', ⟨u2, rfl, ⟨B2, cB2, rfl, RB2⟩, hs2, hb2, he2⟩, hA2⟩ := K3.out j _ (List.getElem?_eq_getElem (by have := N3.out; omega))
                  cases ha'
                  generalize G[j]'(by have := N3.out; omega) = y' at *
                  generalize y'.ks.length = m2 at *
                  have hA3 := hA2.below HX.out.b
                  have f0 := hA3.c0
                  have f1 := hA3.c1
                  have f2 := hA3.c2
                  have f3 := hA3.c3
                  have p3 : (0 : Int) ≤ j := by omega
                  have p4 : decide ((j : Int) < ((i + 1 : Nat) : Int)) = true := decide_eq_true (by omega)
                  have p5 : decide ((j : Int) < (i : Int) + 1) = true := decide_eq_true (by omega)
                  have hx := blk_alloc HT.out (.cells #[.string y'.nm, .int .i64 y'.b, .int .i64 y'.e, .slice B2 m2 cB2] 78)
                  have x0 := blk_cell hx 0
                  have x1 := blk_cell hx 1
                  have x2 := blk_cell hx 2
                  simp at x0 x1 x2
                  have HXn := Lib.hid (HX.out.alloc (.cells #[.string y'.nm, .int .i64 y'.b, .int .i64 y'.e, .slice B2 m2 cB2] 78))
                  have HTn := Lib.hid hx
                  clear hA2 hA3 RB2 hx
                  go_wp2_with fail
                  all_goals first
                    | (go_ret2
                       exact ⟨⟨_, _, rfl⟩, HXn.out.b⟩)
                    | (go_roundg (gk - 1)
                       case measure => omega
                       case rel => exact ⟨_, j + 1, by omega, rfl, rfl, ⟨HXn.out⟩, ⟨HTn.out⟩⟩)
                · have p4 : decide ((j : Int) < ((i + 1 : Nat) : Int)) = false := decide_eq_false (by omega)
                  have p5 : decide ((j : Int) < (i : Int) + 1) = false := decide_eq_false (by omega)
                  have hXX := Lib.hid HX.out
                  go_wp2_with fail
                  all_goals first
                    | (go_ret2
                       exact ⟨⟨_, _, rfl⟩, hXX.out.b⟩)
                    | (go_roundg (n3 - (i + 1))
                       case measure => omega
                       case rel => exact ⟨i + 1, by omega, rfl, ⟨hXX.out⟩⟩)
            case pos =>
              obtain ⟨a2, r2, ha', ⟨u2, rfl, hK2, hs2, hb2, he2⟩, hA2⟩ := K3.out (i - 1) _ (List.getElem?_eq_getElem (by have := N3.out; omega))
              cases ha'
              generalize G[i - 1]'(by have := N3.out; omega) = y' at *
              have hK3 := hK2
              obtain ⟨B2, cB2, rfl, RB2⟩ := hK2
              generalize hm2 : y'.ks.length = m2 at *
              have hA3 := hA2.below HX4.b
              have f0 := hA3.c0
              have f1 := hA3.c1
              have f2 := hA3.c2
              have f3 := hA3.c3
              have p3 : (0 : Int) ≤ (i : Int) - 1 := by omega
              have p4 : decide ((i : Int) - 1 < n3) = true := decide_eq_true (by omega)
              have cmp := Lib.hid (cmpReg6 w4.drew y' y (.slice B2 m2 cB2) (.slice B m cB) (hK3.below HX4.drew.b) (HK.out.below HX4.drew.b))
              clear hA2 hA3 RB2 hK3
              have hw : IntKind.i64.wrap ((i : Int) - 1) = (i : Int) - 1 := IntWalk.i64_in _ (by omega)
              have p5 : (i : Int) - 1 < (n3 : Int) := by omega
              have p6 : (1 : Int) ≤ (i : Int) := by omega
              have ht : ((i : Int) - 1).toNat = i - 1 := by omega
              go_region_held3 (fun w' => w'.cell? ⟨cb, 3, none⟩ = some (.slice (some a3) n3 c3) ∧ w'.cell? ⟨tb, 0, none⟩ = some (.string y.nm) ∧ w'.cell? ⟨tb, 1, none⟩ = some (.int .i64 y.b) ∧ w'.cell? ⟨tb, 2, none⟩ = some (.int .i64 y.e) ∧ w'.cell? ⟨tb, 3, none⟩ = some (.slice B m cB) ∧ w'.cell? (a3.add ((i - 1) * 4)) = some (.string y'.nm) ∧ w'.cell? ⟨(a3.add ((i - 1) * 4)).block, (a3.add ((i - 1) * 4)).off + 1, none⟩ = some (.int .i64 y'.b) ∧ w'.cell? ⟨(a3.add ((i - 1) * 4)).block, (a3.add ((i - 1) * 4)).off + 2, none⟩ = some (.int .i64 y'.e) ∧ w'.cell? ⟨(a3.add ((i - 1) * 4)).block, (a3.add ((i - 1) * 4)).off + 3, none⟩ = some (.slice B2 m2 cB2) ∧ Aside (Bx w w' cb #[a, t, .slice A2 n2 c2, .slice (some a3) n3 c3, k, h, l] 30 ∧ w'.heap[tb]? = some (.cells #[.string y.nm, .int .i64 y.b, .int .i64 y.e, .slice B m cB] 78 (0, 0)))) (first | exact ⟨cc3, q0, q1, q2, q3, f0, f1, f2, f3, ⟨HX4.drew, HT4⟩⟩ | exact ⟨(hb5.cell (World.block_lt_of_cell? _ _ cc3)).trans cc3, (hb5.cell (World.block_lt_of_cell? _ _ q0)).trans q0, (hb5.cell (World.block_lt_of_cell? _ _ q1)).trans q1, (hb5.cell (World.block_lt_of_cell? _ _ q2)).trans q2, (hb5.cell (World.block_lt_of_cell? _ _ q3)).trans q3, (hb5.cell (World.block_lt_of_cell? _ _ f0)).trans f0, (hb5.cell (World.block_lt_of_cell? _ _ f1)).trans f1, (hb5.cell (World.block_lt_of_cell? _ _ f2)).trans f2, (hb5.cell (World.block_lt_of_cell? _ _ f3)).trans f3, ⟨HX4.drew.up hb5, blk_below (w := w4.drew) HT4 hb5⟩⟩)
                (first | (go_at_call 83; refine cmp.out.mono ?_; rintro r w5 ⟨⟨z5, rfl⟩, hb5⟩))
              have HXT := (by assumption : _ ∧ _ ∧ _ ∧ _ ∧ _ ∧ _ ∧ _ ∧ _ ∧ _ ∧ Aside (Bx w _ cb #[a, t, .slice A2 n2 c2, .slice (some a3) n3 c3, k, h, l] 30 ∧ _)).2.2.2.2.2.2.2.2.2.out
              have HX5 := HXT.1
              have HT5 := HXT.2
              clear q0 q1 q2 q3 cc3 f0 f1 f2 f3 cmp HX4 HT4 HXT
              have cc3 := HX5.c 3
              simp at cc3
              cases d5 : decide ((0 : Int) < z5) with
              | true =>
                go_wp2_with fail
                go_ret2
                exact ⟨⟨_, _, rfl⟩, HX5.b⟩
              | false =>
                go_wp2_with fail
                clear cc3
                go_loopg [7, 64] (i + 1) (fun q u v w' => ∃ z : Int, ∃ j : Nat, j + q = i + 1 ∧ u = .int .i64 z ∧ v = .int .i64 j ∧ Aside (Bx w w' cb #[a, t, .slice A2 n2 c2, .slice (some a3) n3 c3, k, h, l] 30) ∧ Aside (w'.heap[tb]? = some (.cells #[.string y.nm, .int .i64 y.b, .int .i64 y.e, .slice B m cB] 78 (0, 0))))
                case atStart => exact ⟨0, 0, by omega, rfl, rfl, ⟨HX5⟩, ⟨HT5⟩⟩
                case round =>
                  clear HX5 HT5
                  obtain ⟨z, j, hj, rfl, rfl, HX, HT⟩ := hrel
                  by_cases hlt2 : j < i + 1
                  · obtain ⟨a2, r2, ha', ⟨u2, rfl, ⟨B2, cB2, rfl, RB2⟩, hs2, hb2, he2⟩, hA2⟩ := K3.out j _ (List.getElem?_eq_getElem (by have := N3.out; omega))
                    cases ha'
                    generalize G[j]'(by have := N3.out; omega) = y' at *
                    generalize y'.ks.length = m2 at *
                    have hA3 := hA2.below HX.out.b
                    have f0 := hA3.c0
                    have f1 := hA3.c1
                    have f2 := hA3.c2
                    have f3 := hA3.c3
                    have p3 : (0 : Int) ≤ j := by omega
                    have p4 : decide ((j : Int) < ((i + 1 : Nat) : Int)) = true := decide_eq_true (by omega)
                    have p5 : decide ((j : Int) < (i : Int) + 1) = true := decide_eq_true (by omega)
                    have hx := blk_alloc HT.out (.cells #[.string y'.nm, .int .i64 y'.b, .int .i64 y'.e, .slice B2 m2 cB2] 78)
                    have x0 := blk_cell hx 0
                    have x1 := blk_cell hx 1
                    have x2 := blk_cell hx 2
                    simp at x0 x1 x2
                    have HXn := Lib.hid (HX.out.alloc (.cells #[.string y'.nm, .int .i64 y'.b, .int .i64 y'.e, .slice B2 m2 cB2] 78))
                    have HTn := Lib.hid hx
                    clear hA2 hA3 RB2 hx
                    go_wp2_with fail
                    all_goals first
                      | (go_ret2
                         exact ⟨⟨_, _, rfl⟩, HXn.out.b⟩)
                      | (go_roundg (gk - 1)
                         case measure => omega
                         case rel => exact ⟨_, j + 1, by omega, rfl, rfl, ⟨HXn.out⟩, ⟨HTn.out⟩⟩)
                  · have p4 : decide ((j : Int) < ((i + 1 : Nat) : Int)) = false := decide_eq_false (by omega)
                    have p5 : decide ((j : Int) < (i : Int) + 1) = false := decide_eq_false (by omega)
                    have hXX := Lib.hid HX.out
                    go_wp2_with fail
                    all_goals first
                      | (go_ret2
                         exact ⟨⟨_, _, rfl⟩, hXX.out.b⟩)
                      | (go_roundg (n3 - (i + 1))
                         case measure => omega
                         case rel => exact ⟨i + 1, by omega, rfl, ⟨hXX.out⟩⟩)
    · have p1 : decide ((i : Int) < n3) = false := by simpa using hlt
      go_wp2
      go_ret2
      exact ⟨⟨_, _, rfl⟩, HX.out.b⟩
end Go.Proofs.YthjcmodhleoocaaGreatDoor.Z
/- ZTexts6 -/
namespace Go.Proofs.YthjcmodhleoocaaGreatDoor.Z
open Go Go.RowKit Go.Lib
set_option linter.unusedVariables false
set_option linter.unusedSimpArgs false
/-- Every text lies within n tokens. -/
def TxOk (Z : List Tx) (n : Nat) : Prop := ∀ u ∈ Z, 0 ≤ u.b ∧ u.e ≤ n
set_option maxRecDepth 100000 in
set_option maxHeartbeats 16000000 in
theorem texts6 (w : World) (a t x r k h l : Value) (T : List (List ByteArray)) (Z : List Tx) (ht : Tks w t T) (hx : Txs w x Z) :
    Calls Tryz.prog 54 #[.agg #[a, t, x, r, k, h, l]] w fun r w' => (∃ y z, r = .returned (.tuple #[.int .i64 y, .int .i64 z]) ∧ (z = 0 → TxOk Z T.length)) ∧ Below w.heap.size w w' := by
  obtain ⟨A1, c1, rfl, g1, m1, R1⟩ := ht
  have b1 := lim_of g1 m1
  have gc1 := g1
  obtain ⟨n1, hn1⟩ : ∃ n, n = T.length := ⟨_, rfl⟩
  rw [← hn1] at b1 gc1 ⊢
  have K1 := Lib.hid R1
  clear R1 g1 m1
  have N1 := Lib.hid hn1
  clear hn1
  obtain ⟨A2, c2, rfl, g2, m2, R2⟩ := hx
  have b2 := lim_of g2 m2
  have gc2 := g2
  obtain ⟨n2, hn2⟩ : ∃ n, n = Z.length := ⟨_, rfl⟩
  rw [← hn2] at b2 gc2 ⊢
  have K2 := Lib.hid R2
  clear R2 g2 m2
  have N2 := Lib.hid hn2
  clear hn2
  cases d0 : decide ((64 : Int) < n2) with
  | true =>
    go_enter Tryz.func54, Tryz.ntmps54
    go_wp2
    go_ret2
    exact ⟨⟨_, _, rfl, fun h => absurd h (by decide)⟩, (Below.refl _ w).alloc (Nat.le_refl _) _⟩
  | false =>
  cases d1 : (!(((n2 : Int) == 0) == ((n1 : Int) == 0))) with
  | true =>
    go_enter Tryz.func54, Tryz.ntmps54
    go_wp2
    go_ret2
    exact ⟨⟨_, _, rfl, fun h => absurd h (by decide)⟩, (Below.refl _ w).alloc (Nat.le_refl _) _⟩
  | false =>
  have H0 := Bx.new w #[a, .slice A1 n1 c1, .slice A2 n2 c2, r, k, h, l] 30
  go_enter Tryz.func54, Tryz.ntmps54
  go_wp2_with fail
  obtain ⟨cb, hcb⟩ : ∃ cb, cb = w.heap.size := ⟨_, rfl⟩
  rw [← hcb]
  rw [← hcb] at H0
  clear hcb
  generalize w.alloc (.cells #[a, .slice A1 n1 c1, .slice A2 n2 c2, r, k, h, l] 30) = w1 at *
  go_loopg [5, 28] n2 (fun q u v w' => ∃ z : Int, ∃ i : Nat, i + q = n2 ∧ 0 ≤ z ∧ u = .int .i64 z ∧ v = .int .i64 i ∧ Aside (Bx w w' cb #[a, .slice A1 n1 c1, .slice A2 n2 c2, r, k, h, l] 30) ∧ Aside (∀ j y, j < i → Z[j]? = some y → 0 ≤ y.b ∧ y.e ≤ n1))
  case atStart => exact ⟨0, 0, by omega, by omega, rfl, rfl, ⟨H0⟩, ⟨fun j y hj => by omega⟩⟩
  case round =>
    clear H0
    obtain ⟨z, i, hi, hz, rfl, rfl, HX, HF⟩ := hrel
    by_cases hlt : i < n2
    · have hZi : Z[i]? = some (Z[i]'(by have := N2.out; omega)) := List.getElem?_eq_getElem (by have := N2.out; omega)
      obtain ⟨a', r', rfl, ⟨u, rfl, hK, hs, hb, he⟩, hA⟩ := K2.out i _ hZi
      generalize Z[i]'(by have := N2.out; omega) = y at *
      have p0 : (0 : Int) ≤ i := by omega
      have p1 : decide ((i : Int) < n2) = true := by simpa using hlt
      have p2 : (i : Int) ≤ c2 := by omega
      have hA1 := hA.below HX.out.b
      have e0 := hA1.c0
      have e1 := hA1.c1
      have e2 := hA1.c2
      have e3 := hA1.c3
      have hK1 := hK.below HX.out.b
      have next : 0 ≤ y.b → y.e ≤ n1 → ∀ j y', j < i + 1 → Z[j]? = some y' → 0 ≤ y'.b ∧ y'.e ≤ n1 := fun h0 h1 j y' hj hy' => by
        rcases Nat.lt_succ_iff_lt_or_eq.1 hj with h | rfl
        · exact HF.out j y' h hy'
        · rw [hZi] at hy'; cases hy'; exact ⟨h0, h1⟩
      have NX := Lib.hid next
      obtain ⟨B, cB, rfl, RB⟩ := hK
      generalize hm : y.ks.length = m at *
      have x2 := HX.out.c 2
      simp at x2
      clear hA hA1 next hZi RB
      cases hN : nmB y.nm with
      | false =>
        go_wp2_with (go_at_call 79; refine (validName4 _ _).mono ?_; rintro r w' ⟨rfl, rfl⟩; rw [hN])
        go_ret2
        exact ⟨⟨_, _, rfl, fun h => absurd h (by decide)⟩, (HX.out.alloc _).b⟩
      | true =>
        have m2 := fun o => (HX.out.alloc o).c 2
        simp at m2
        go_wp2_with (go_at_call 79; refine (validName4 _ _).mono ?_; rintro r w' ⟨rfl, rfl⟩; rw [hN])
        have HT := blk_new wr (.cells #[.string y.nm, .int .i64 y.b, .int .i64 y.e, .slice B m cB] 85)
        have HX2 := HX.out.alloc (.cells #[.string y.nm, .int .i64 y.b, .int .i64 y.e, .slice B m cB] 85)
        have hK2 := hK1.below ((Below.refl wr.heap.size wr).alloc (Nat.le_refl _) (.cells #[.string y.nm, .int .i64 y.b, .int .i64 y.e, .slice B m cB] 85))
        obtain ⟨tb, htb⟩ : ∃ tb, tb = wr.heap.size := ⟨_, rfl⟩
        rw [← htb]
        rw [← htb] at HT
        generalize wr.alloc (.cells #[.string y.nm, .int .i64 y.b, .int .i64 y.e, .slice B m cB] 85) = w2 at *
        have HK2 := Lib.hid hK2
        clear e0 e1 e2 e3 htb HX hK1 hK2 x2 m2
        go_loopg [43] i (fun q v w' => ∃ j : Nat, j + q = i ∧ v = .int .i64 j ∧ Aside (Below w2.heap.size w2 w'))
        case atStart => exact ⟨0, by omega, rfl, ⟨Below.refl _ _⟩⟩
        case round =>
          obtain ⟨j, hj, rfl, HB⟩ := hrel
          have HX := HX2.up HB.out
          have HTj := blk_below HT HB.out
          by_cases hlt2 : j < i
          · obtain ⟨a2, r2, ha', ⟨u2, rfl, ⟨B2, cB2, rfl, RB2⟩, hs2, hb2, he2⟩, hA2⟩ := K2.out j _ (List.getElem?_eq_getElem (by have := N2.out; omega))
            cases ha'
            generalize Z[j]'(by have := N2.out; omega) = y' at *
            generalize y'.ks.length = m' at *
            have hA3 := hA2.below HX.b
            have f0 := hA3.c0
            have f1 := hA3.c1
            have f2 := hA3.c2
            have f3 := hA3.c3
            have p3 : (0 : Int) ≤ j := by omega
            have p4 : decide ((j : Int) < i) = true := by simpa using hlt2
            have hx := blk_alloc HTj (.cells #[.string y'.nm, .int .i64 y'.b, .int .i64 y'.e, .slice B2 m' cB2] 85)
            have x0 := blk_cell hx 0
            simp at x0
            have hb := HB.out.alloc HB.out.size (.cells #[.string y'.nm, .int .i64 y'.b, .int .i64 y'.e, .slice B2 m' cB2] 85)
            clear hA2 hA3 RB2
            cases d2 : (y'.nm.toList == y.nm.toList) with
            | true =>
              go_wp2_with fail
              go_ret2
              exact ⟨⟨_, _, rfl, fun h => absurd h (by decide)⟩, (HX2.up hb).b⟩
            | false =>
              go_wp2_with fail
              go_roundg (gk - 1)
              case measure => omega
              case rel => exact ⟨j + 1, by omega, rfl, ⟨hb⟩⟩
          · have p4 : decide ((j : Int) < i) = false := by simpa using hlt2
            have x1 := blk_cell HTj 1
            have x2 := blk_cell HTj 2
            have x3 := blk_cell HTj 3
            have y2 := HX.c 2
            simp at x1 x2 x3 y2
            cases d2 : (y.b != z) with
            | true =>
              go_wp2_with fail
              go_ret2
              exact ⟨⟨_, _, rfl, fun h => absurd h (by decide)⟩, HX.b⟩
            | false =>
              cases d3 : decide (y.e ≤ y.b) with
              | true =>
                go_wp2_with fail
                go_ret2
                exact ⟨⟨_, _, rfl, fun h => absurd h (by decide)⟩, HX.b⟩
              | false =>
                cases d4 : decide ((n1 : Int) < y.e) with
                | true =>
                  go_wp2_with fail
                  go_ret2
                  exact ⟨⟨_, _, rfl, fun h => absurd h (by decide)⟩, HX.b⟩
                | false =>
                  have hyb : y.b = z := by simpa using d2
                  have hye : y.b < y.e := by simpa using d3
                  have hyn : y.e ≤ n1 := by simpa using d4
                  have CL := Lib.hid (And.intro hyb (And.intro hye hyn))
                  clear hyb hye hyn
                  cases d5 : ((i : Int) == (n2 : Int) - 1) <;> cases d6 : (y.e != n1)
                  case true.true =>
                    go_wp2_with fail
                    go_ret2
                    exact ⟨⟨_, _, rfl, fun h => absurd h (by decide)⟩, HX.b⟩
                  all_goals
                    have CV := Lib.hid (pairs6 _ _ _ (HK2.out.below HB.out))
                    have hld := Lib.hid HTj
                    go_wp2_with (go_at_call 81; refine CV.out.mono ?_; rintro r w3 ⟨⟨zz, rfl⟩, HB3⟩; have x4 := (blk_cell (blk_below hld.out HB3) 2); simp at x4)
                    · have hq : (zz != 0) = true := by assumption
                      go_ret2
                      exact ⟨⟨_, _, rfl, fun h => by rw [h] at hq; exact absurd hq (by decide)⟩, (HX.up HB3).b⟩
                    · go_roundg (n2 - (i + 1))
                      case measure => omega
                      case rel => exact ⟨_, i + 1, by omega, by have := CL.out; omega, rfl, rfl, ⟨HX.up HB3⟩, ⟨NX.out (by have := CL.out; omega) (by have := CL.out; omega)⟩⟩
    · have p1 : decide ((i : Int) < n2) = false := by simpa using hlt
      go_wp2
      go_ret2
      refine ⟨⟨_, _, rfl, fun _ u hu => ?_⟩, HX.out.b⟩
      obtain ⟨j, hj⟩ := List.getElem?_of_mem hu
      have := (List.getElem?_eq_some_iff.1 hj).1
      exact HF.out j u (by have := N2.out; omega) hj
end Go.Proofs.YthjcmodhleoocaaGreatDoor.Z
/- ZParse5 -/
namespace Go.Proofs.YthjcmodhleoocaaGreatDoor.Z
open Go Go.RowKit Go.Lib
set_option linter.unusedVariables false
set_option linter.unusedSimpArgs false
/-- Rows of strings. -/
def SR (xs : List Value) (n : Nat) : Prop := xs.length = n ∧ ∀ i, i < n → ∃ s, xs[i]? = some (.string s)
theorem SR.app {xs : List Value} {n : Nat} (h : SR xs n) (s : ByteArray) : SR (xs ++ [.string s]) (n + 1) := by
  refine ⟨by simp [h.1], fun i hi => ?_⟩
  by_cases e : i < n
  · obtain ⟨t, ht⟩ := h.2 i e
    exact ⟨t, by rw [List.getElem?_append_left (by rw [h.1]; omega)]; exact ht⟩
  · obtain rfl : i = n := by omega
    exact ⟨s, by rw [List.getElem?_append_right (by rw [h.1]; omega), h.1]; simp⟩
def RetV (r : Ending) : Prop := ∃ v z, r = .returned (.tuple #[v, .int .i64 z])
theorem value04big (s : ByteArray) (hs : ¬ s.size ≤ 120) (w : World) : Calls Tryz.prog 103 #[.string s] w fun r w' => r = .returned (.int .i64 2) ∧ w' = w := by
  have k1 : decide ((120 : Int) < s.size) = true := by simp; omega
  go_enter Tryz.func103, Tryz.ntmps103
  go_wp2
  go_ret
  exact ⟨rfl, rfl⟩
set_option maxRecDepth 100000 in
set_option maxHeartbeats 8000000 in
theorem parse05 (s : ByteArray) (w : World) : Calls Tryz.prog 102 #[.string s] w fun r w' => RetV r ∧ Below w.heap.size w w' := by
  by_cases hs : s.size ≤ 120
  case neg =>
    go_enter Tryz.func102, Tryz.ntmps102
    go_wp2_with (go_at_call 103; refine (value04big _ hs _).mono ?_; rintro r w1 ⟨rfl, rfl⟩)
    go_ret2
    exact ⟨⟨_, _, rfl⟩, Below.refl _ _⟩
  by_cases he : s.size = 0
  · have k1 : ((s.size : Int) == 0) = true := by rw [he]; rfl
    go_enter Tryz.func102, Tryz.ntmps102
    go_wp2_with (go_at_call 103; refine (value04 _ _).mono ?_; rintro r w1 ⟨⟨z, rfl⟩, HB⟩)
    all_goals
      go_ret2
      exact ⟨⟨_, _, rfl⟩, HB⟩
  · have k0 : 0 < s.size := by omega
    have k1 : ((s.size : Int) == 0) = false := by rw [beq_eq_false_iff_ne]; omega
    have k2 : (0 : Int) ≤ (s.size : Int) - 1 := by omega
    have k3 : decide ((s.size : Int) - 1 < s.size) = true := decide_eq_true (by omega)
    cases c1 : (((s[0]'k0).toNat : Int) != 124) <;> cases c2 : (((s[s.size - 1]'(by omega)).toNat : Int) != 124)
    all_goals
      go_enter Tryz.func102, Tryz.ntmps102
      go_wp2_with (go_at_call 103; refine (value04 _ _).mono ?_; rintro r w1 ⟨⟨z, rfl⟩, HB⟩)
      all_goals (try (go_ret2; exact ⟨⟨_, _, rfl⟩, HB⟩))
    · replace HB := Lib.hid HB
      clear k2 k3
      go_loopg [6, 7, 8] s.size (fun q v6 v7 v8 w' => ∃ n xs, ∃ fr i : Nat, i + q = s.size + 1 ∧ 1 ≤ fr ∧ fr ≤ i ∧ n ≤ i ∧ v7 = .int .i64 fr ∧ v8 = .int .i64 i ∧ (n = 0 → v6 = .slice none 0 0) ∧ Aside (w'.ownsRow w1.heap.size 9 1 v6 n xs) ∧ Aside (SR xs n) ∧ Aside (Below w1.heap.size w1 w'))
      case atStart => exact ⟨0, [], 1, 1, by omega, by omega, by omega, by omega, rfl, rfl, fun _ => rfl, ⟨World.ownsRow_nil _ _ _ _⟩, ⟨rfl, fun i hi => by omega⟩, ⟨Below.refl _ _⟩⟩
      case round =>
        obtain ⟨n, xs, fr, i, hi, hf, hfi, hni, rfl, rfl, hz, HO, HS, HB2⟩ := hrel
        by_cases hlt : i < s.size
        · have p0 : (0 : Int) ≤ i := by omega
          have p1 : decide ((i : Int) < s.size) = true := decide_eq_true (by omega)
          have p2 : decide ((fr : Int) ≤ i) = true := decide_eq_true (by omega)
          have p3 : (0 : Int) ≤ fr := by omega
          cases d1 : ((s[i].toNat : Int) != 124) with
          | true =>
            go_wp2
            go_roundg (gk - 1)
            case measure => omega
            case rel => exact ⟨n, xs, fr, i + 1, by omega, by omega, by omega, by omega, rfl, rfl, hz, HO, HS, HB2⟩
          | false =>
            cases d2 : ((i : Int) == fr) with
            | true =>
              go_wp2
              go_ret2
              exact ⟨⟨_, _, rfl⟩, HB.out.trans (HB2.out.mono HB.out.size)⟩
            | false =>
              have HL := Lib.hid HB2.out.size
              go_wp2_with (at_builtin; refine app el28 rfl _ _ rfl w1.heap.size rfl (HO.out.alloc _) ⟨_, 0, none⟩ 1 1 [.string (s.extract fr i)] rfl rfl (World.news_of_block (blk_new _ _)) (fun u hu => by simp at hu; subst hu; rfl) (by omega) (by have := HL.out; simp; omega) ?_; intro v' w5 h7 h8)
              have hb5 := (HB2.out.alloc HB2.out.size (.cells #[.string (s.extract fr i)] 9)).grown h8 (by have := HL.out; simp; omega) (fun k hk => (HO.out.lt k hk).1)
              go_roundg (gk - 1)
              case measure => omega
              case rel => exact ⟨n + 1, _, i + 1, i + 1, by omega, by omega, by omega, by omega, rfl, rfl, fun h => absurd h (by omega), ⟨h7⟩, ⟨HS.out.app _⟩, ⟨hb5⟩⟩
        · have p1 : decide ((i : Int) < s.size) = false := decide_eq_false (by omega)
          obtain ⟨A, cap, rfl, hA⟩ := own_sliceN HO.out hz
          have HA := Lib.hid hA
          clear hA hz
          have hnb : n ≤ 1000 := by omega
          go_wp2
          go_loopg [9] n (fun q v w' => ∃ i : Nat, 1 ≤ i ∧ i + q = n + 1 ∧ v = .int .i64 i ∧ ∃ k, w' = wr.drewN k)
          case atStart => exact ⟨1, by omega, by omega, rfl, 0, rfl⟩
          case round =>
            obtain ⟨i, hi1, hi2, rfl, k, rfl⟩ := hrel
            by_cases hlt2 : i < n
            · obtain ⟨m, rfl⟩ : ∃ m, i = m + 1 := ⟨i - 1, by omega⟩
              obtain ⟨g, rfl, hg1, hg2⟩ := HA.out (by omega)
              obtain ⟨t0, r0⟩ := HS.out.2 m (by omega)
              obtain ⟨t1, r1⟩ := HS.out.2 (m + 1) (by omega)
              have hl := HS.out.1
              have q0 := (HO.out.cellAt m (by omega)).trans r0
              have q1 := (HO.out.cellAt (m + 1) (by omega)).trans r1
              have z0 : (0 : Int) ≤ m := by omega
              have z1 : decide ((m : Int) < n) = true := decide_eq_true (by omega)
              have z2 : (0 : Int) ≤ (m : Int) + 1 := by omega
              have z3 : decide ((m : Int) + 1 < n) = true := decide_eq_true (by omega)
              have z4 : decide (((m + 1 : Nat) : Int) < n) = true := decide_eq_true (by omega)
              clear r0 r1 hl
              cases d2 : Op.bytesLess t0.toList t1.toList with
              | true =>
                go_wp2_with fail
                go_quiet (fail)
                go_wp2_with fail
                go_roundg (gk - 1)
                case measure => omega
                case rel => exact ⟨m + 2, by omega, by omega, rfl, _, rfl⟩
              | false =>
                go_wp2_with fail
                go_quiet (fail)
                go_wp2_with fail
                go_ret2
                exact ⟨⟨_, _, rfl⟩, HB.out.trans ((bdrewN (bdrewN HB2.out _) _).mono HB.out.size)⟩
            · have z4 : decide ((i : Int) < n) = false := decide_eq_false (by omega)
              go_wp2_with fail
              go_ret2
              exact ⟨⟨_, _, rfl⟩, HB.out.trans ((bdrewN HB2.out _).mono HB.out.size)⟩
set_option maxRecDepth 100000 in
set_option maxHeartbeats 4000000 in
theorem value6 (a s : ByteArray) (b : Bool) (w : World) : Calls Tryz.prog 80 #[.agg #[.string a, .bool b], .string s] w fun r w' => RetI r ∧ Below w.heap.size w w' := by
  have HB := (Below.refl w.heap.size w).alloc (Nat.le_refl _) (.cells #[.string a, .bool b] 73)
  cases b with
  | true =>
    go_enter Tryz.func80, Tryz.ntmps80
    go_wp2_with (go_at_call 102; refine (parse05 _ _).mono ?_; rintro r w1 ⟨⟨v, z, rfl⟩, HB1⟩)
    go_ret
    exact ⟨⟨_, rfl⟩, HB.trans (HB1.mono HB.size)⟩
  | false =>
    go_enter Tryz.func80, Tryz.ntmps80
    go_wp2_with (go_at_call 103; refine (value04 _ _).mono ?_; rintro r w1 ⟨⟨z, rfl⟩, HB1⟩)
    go_ret
    exact ⟨⟨_, rfl⟩, HB.trans (HB1.mono HB.size)⟩
end Go.Proofs.YthjcmodhleoocaaGreatDoor.Z
/- ZToks6 -/
namespace Go.Proofs.YthjcmodhleoocaaGreatDoor.Z
open Go Go.RowKit Go.Lib
set_option linter.unusedVariables false
set_option linter.unusedSimpArgs false
set_option maxRecDepth 100000 in
set_option maxHeartbeats 8000000 in
theorem attrs6 (w : World) (v : Value) (l : List (ByteArray × Bool)) (h : Ats w v l) : Calls Tryz.prog 52 #[v] w fun r w' => RetP r ∧ Below w.heap.size w w' := by
  obtain ⟨A, c, rfl, hnc, hcm, hR⟩ := h
  have hn := lim_of hnc hcm
  generalize hl : l.length = n at *
  have HR := Lib.hid hR
  clear hR hcm
  cases d0 : ((n : Int) == 0) with
  | true =>
    go_enter Tryz.func52, Tryz.ntmps52
    go_wp2
    go_ret2
    exact ⟨⟨_, _, rfl⟩, Below.refl _ _⟩
  | false =>
  cases d1 : decide ((8 : Int) < n) with
  | true =>
    go_enter Tryz.func52, Tryz.ntmps52
    go_wp2
    go_ret2
    exact ⟨⟨_, _, rfl⟩, Below.refl _ _⟩
  | false =>
    go_enter Tryz.func52, Tryz.ntmps52
    go_wp2
    go_loopg [16] n (fun q v w' => ∃ i : Nat, i + q = n ∧ v = .int .i64 i ∧ Aside (Below w.heap.size w w'))
    case atStart => exact ⟨0, by omega, rfl, ⟨Below.refl _ _⟩⟩
    case round =>
      obtain ⟨i, hi, rfl, HB⟩ := hrel
      by_cases hlt : i < n
      · obtain ⟨a, r, rfl, ⟨rfl, h3⟩, hA⟩ := HR.out i _ (List.getElem?_eq_getElem (by omega))
        generalize l[i]'(by omega) = y at *
        have p0 : (0 : Int) ≤ i := by omega
        have p1 : decide ((i : Int) < n) = true := by simpa using hlt
        have p2 : (i : Int) ≤ c := by omega
        have hA1 := hA.below HB.out
        have e0 := hA1.c0
        have e1 := hA1.c1
        clear hA hA1
        cases hN : nmB y.1 with
        | false =>
          go_wp2_with (go_at_call 79; refine (validName4 _ _).mono ?_; rintro r w' ⟨rfl, rfl⟩; rw [hN])
          go_ret2
          exact ⟨⟨_, _, rfl⟩, HB.out.alloc HB.out.size _⟩
        | true =>
          go_wp2_with (go_at_call 79; refine (validName4 _ _).mono ?_; rintro r w' ⟨rfl, rfl⟩; rw [hN])
          have HX := blk_new wr (.cells #[.string y.1, .bool y.2] 73)
          have HB2 := HB.out.alloc HB.out.size (.cells #[.string y.1, .bool y.2] 73)
          obtain ⟨cb, hcb⟩ : ∃ cb, cb = wr.heap.size := ⟨_, rfl⟩
          rw [← hcb]
          rw [← hcb] at HX
          generalize wr.alloc (.cells #[.string y.1, .bool y.2] 73) = w2 at *
          clear e0 e1 hcb
          go_loopg [30] i (fun q v w' => ∃ j : Nat, j + q = i ∧ v = .int .i64 j ∧ Aside (Below w.heap.size w w') ∧ Aside (w'.heap[cb]? = some (.cells #[.string y.1, .bool y.2] 73 (0, 0))))
          case atStart => exact ⟨0, by omega, rfl, ⟨HB2⟩, ⟨HX⟩⟩
          case round =>
            clear HX HB2
            obtain ⟨j, hj, rfl, HB2, HX⟩ := hrel
            by_cases hlt2 : j < i
            · obtain ⟨a', r, ha', ⟨rfl, h5⟩, hA⟩ := HR.out j _ (List.getElem?_eq_getElem (by omega))
              cases ha'
              generalize l[j]'(by omega) = y' at *
              have hA1 := hA.below HB2.out
              have f0 := hA1.c0
              have f1 := hA1.c1
              have p3 : (0 : Int) ≤ j := by omega
              have p4 : decide ((j : Int) < i) = true := by simpa using hlt2
              have x0 := blk_cell (blk_alloc HX.out (.cells #[.string y'.1, .bool y'.2] 73)) 0
              simp at x0
              have hb := HB2.out.alloc HB2.out.size (.cells #[.string y'.1, .bool y'.2] 73)
              have hx := blk_alloc HX.out (.cells #[.string y'.1, .bool y'.2] 73)
              clear hA hA1
              cases d2 : (y.1.toList == y'.1.toList) with
              | true =>
                go_wp2_with fail
                go_ret2
                exact ⟨⟨_, _, rfl⟩, hb⟩
              | false =>
                go_wp2_with fail
                go_roundg (gk - 1)
                case measure => omega
                case rel => exact ⟨j + 1, by omega, rfl, ⟨hb⟩, ⟨hx⟩⟩
            · have p4 : decide ((j : Int) < i) = false := by simpa using hlt2
              go_wp2_with fail
              go_roundg (n - (i + 1))
              case measure => omega
              case rel => exact ⟨i + 1, by omega, rfl, HB2⟩
      · have p1 : decide ((i : Int) < n) = false := by simpa using hlt
        go_wp2
        go_ret2
        exact ⟨⟨_, _, rfl⟩, HB.out⟩
set_option maxRecDepth 100000 in
set_option maxHeartbeats 8000000 in
theorem tokens6 (w : World) (a t x r k h l : Value) (Y : List (ByteArray × Bool)) (T : List (List ByteArray)) (ha : Ats w a Y) (ht : Tks w t T) :
    Calls Tryz.prog 53 #[.agg #[a, t, x, r, k, h, l]] w fun r w' => RetP r ∧ Below w.heap.size w w' := by
  obtain ⟨A0, c0, rfl, g0, m0, R0⟩ := ha
  have b0 := lim_of g0 m0
  have gc0 := g0
  obtain ⟨n0, hn0⟩ : ∃ n, n = Y.length := ⟨_, rfl⟩
  rw [← hn0] at b0 gc0 ⊢
  have K0 := Lib.hid R0
  clear R0 g0 m0
  have N0 := Lib.hid hn0
  clear hn0
  obtain ⟨A1, c1, rfl, g1, m1, R1⟩ := ht
  have b1 := lim_of g1 m1
  have gc1 := g1
  obtain ⟨n1, hn1⟩ : ∃ n, n = T.length := ⟨_, rfl⟩
  rw [← hn1] at b1 gc1 ⊢
  have K1 := Lib.hid R1
  clear R1 g1 m1
  have N1 := Lib.hid hn1
  clear hn1
  cases d0 : decide ((4096 : Int) < n1) with
  | true =>
    go_enter Tryz.func53, Tryz.ntmps53
    go_wp2
    go_ret2
    exact ⟨⟨_, _, rfl⟩, (Below.refl _ w).alloc (Nat.le_refl _) _⟩
  | false =>
  have H0 := Bx.new w #[.slice A0 n0 c0, .slice A1 n1 c1, x, r, k, h, l] 30
  go_enter Tryz.func53, Tryz.ntmps53
  go_wp2_with fail
  obtain ⟨cb, hcb⟩ : ∃ cb, cb = w.heap.size := ⟨_, rfl⟩
  rw [← hcb]
  rw [← hcb] at H0
  clear hcb
  generalize w.alloc (.cells #[.slice A0 n0 c0, .slice A1 n1 c1, x, r, k, h, l] 30) = w1 at *
  go_loopg [16] n1 (fun q v w' => ∃ i : Nat, i + q = n1 ∧ v = .int .i64 i ∧ Aside (Bx w w' cb #[.slice A0 n0 c0, .slice A1 n1 c1, x, r, k, h, l] 30))
  case atStart => exact ⟨0, by omega, rfl, ⟨H0⟩⟩
  case round =>
    clear H0
    obtain ⟨i, hi, rfl, HX⟩ := hrel
    by_cases hlt : i < n1
    · obtain ⟨a', r', rfl, ⟨u, rfl, ⟨B, cB, rfl, gB, mB, RB⟩⟩, hA⟩ := K1.out i _ (List.getElem?_eq_getElem (by have := N1.out; omega))
      generalize T[i]'(by have := N1.out; omega) = y at *
      have p0 : (0 : Int) ≤ i := by omega
      have p1 : decide ((i : Int) < n1) = true := by simpa using hlt
      have e0 := (hA.below HX.out.b).c0
      rw [Nat.mul_one] at e0
      have x0 := HX.out.c 0
      simp at x0
      clear hA
      have bB := lim_of gB mB
      have KB := Lib.hid RB
      obtain ⟨nB, hnB⟩ : ∃ n, n = y.length := ⟨_, rfl⟩
      rw [← hnB] at e0 bB
      have NB := Lib.hid hnB
      clear RB gB mB hnB
      cases d1 : ((nB : Int) != n0) with
      | true =>
        go_wp2
        go_ret2
        exact ⟨⟨_, _, rfl⟩, HX.out.b⟩
      | false =>
        have hnn : (nB : Int) = n0 := by simpa using d1
        go_wp2
        clear x0
        go_loopg [30] nB (fun q v w' => ∃ j : Nat, j + q = nB ∧ v = .int .i64 j ∧ Aside (Bx w w' cb #[.slice A0 n0 c0, .slice (some a') n1 c1, x, r, k, h, l] 30))
        case atStart => exact ⟨0, by omega, rfl, HX⟩
        case round =>
          clear HX
          obtain ⟨j, hj, rfl, HX⟩ := hrel
          by_cases hlt2 : j < nB
          · obtain ⟨a2, r2, rfl, ⟨rfl, h3⟩, hA2⟩ := KB.out j _ (List.getElem?_eq_getElem (by have := NB.out; omega))
            obtain ⟨a3, r3, rfl, ⟨rfl, h4⟩, hA3⟩ := K0.out j _ (List.getElem?_eq_getElem (by have := N0.out; omega))
            generalize y[j]'(by have := NB.out; omega) = s at *
            generalize Y[j]'(by have := N0.out; omega) = b at *
            have p2 : (0 : Int) ≤ j := by omega
            have p3 : decide ((j : Int) < nB) = true := by simpa using hlt2
            have p4 : decide ((j : Int) < n0) = true := decide_eq_true (by omega)
            have x0 := HX.out.c 0
            simp at x0
            have e4 := (hA2.below HX.out.b).c0
            rw [Nat.mul_one] at e4
            have e5 := (hA3.below HX.out.b).c0
            have e6 := (hA3.below HX.out.b).c1
            clear hA2 hA3
            go_wp2_with (go_at_call 80; refine (value6 _ _ _ _).mono ?_; rintro r w3 ⟨⟨z, rfl⟩, HB3⟩)
            · go_ret2
              exact ⟨⟨_, _, rfl⟩, (HX.out.up HB3).b⟩
            · go_roundg (gk - 1)
              case measure => omega
              case rel => exact ⟨j + 1, by omega, rfl, ⟨HX.out.up HB3⟩⟩
          · have p3 : decide ((j : Int) < nB) = false := by simpa using hlt2
            go_wp2_with fail
            go_roundg (n1 - (i + 1))
            case measure => omega
            case rel => exact ⟨i + 1, by omega, rfl, HX⟩
    · have p1 : decide ((i : Int) < n1) = false := by simpa using hlt
      go_wp2
      go_ret2
      exact ⟨⟨_, _, rfl⟩, HX.out.b⟩
end Go.Proofs.YthjcmodhleoocaaGreatDoor.Z
/- ZWeight -/
namespace Go.Proofs.YthjcmodhleoocaaGreatDoor.Z
open Go Go.RowKit Go.Lib
set_option linter.unusedVariables false
set_option linter.unusedSimpArgs false
theorem weight6 (w : World) (v : Value) (l : List (ByteArray × ByteArray)) (h : Ks w v l) : Calls Tryz.prog 33 #[v] w fun r w' => RetI r ∧ Below w.heap.size w w' := by
  obtain ⟨A, c, rfl, hnc, hcm, hR⟩ := h
  have hn := lim_of hnc hcm
  generalize hl : l.length = n at *
  have HR := Lib.hid hR
  clear hR
  go_enter Tryz.func33, Tryz.ntmps33
  go_wp2
  go_loopg [3, 10] n (fun q u v w' => ∃ z, ∃ i : Nat, i + q = n ∧ u = .int .i64 z ∧ v = .int .i64 i ∧ Below w.heap.size w w')
  case atStart => exact ⟨_, 0, by omega, rfl, rfl, Below.refl _ _⟩
  case round =>
    obtain ⟨z, i, hi, rfl, rfl, hb⟩ := hrel
    by_cases hlt : i < n
    · obtain ⟨a, r, rfl, ⟨rfl, h3, h4⟩, hA⟩ := HR.out i _ (List.getElem?_eq_getElem (by omega))
      have p0 : (0 : Int) ≤ i := by omega
      have p1 : decide ((i : Int) < n) = true := by simpa using hlt
      have hA1 := hA.below hb
      have e1 := hA1.c0
      have e2 := hA1.c1
      go_wp2
      go_roundg (gk - 1)
      case measure => omega
      case rel => exact ⟨_, i + 1, by omega, rfl, rfl, hb.alloc hb.size _⟩
    · have p1 : decide ((i : Int) < n) = false := by simpa using hlt
      go_wp2
      go_ret
      exact ⟨⟨_, rfl⟩, hb⟩
set_option maxRecDepth 100000 in
set_option maxHeartbeats 16000000 in
theorem weightAll (w : World) (a t x r k h l : Value) (C : Co) (H : Cp w a t x r k h l C) : Calls Tryz.prog 19 #[.agg #[a, t, x, r, k, h, l]] w fun r w' => RetI r ∧ Below w.heap.size w w' := by
  obtain ⟨⟨A0, c0, rfl, g0, m0, R0⟩, ⟨A1, c1, rfl, g1, m1, R1⟩, ⟨A2, c2, rfl, g2, m2, R2⟩, ⟨A3, c3, rfl, g3, m3, R3⟩, ⟨A4, c4, rfl, g4, m4, R4⟩, ⟨A5, c5, rfl, g5, m5, R5⟩, ⟨A6, c6, rfl, g6, m6, R6⟩⟩ := H
  have b0 := lim_of g0 m0
  have K0 := Lib.hid R0
  clear R0 g0 m0
  obtain ⟨n0, hn0⟩ : ∃ n, n = C.ats.length := ⟨_, rfl⟩
  rw [← hn0] at b0 ⊢
  have N0 := Lib.hid hn0
  clear hn0
  have b1 := lim_of g1 m1
  have K1 := Lib.hid R1
  clear R1 g1 m1
  obtain ⟨n1, hn1⟩ : ∃ n, n = C.tks.length := ⟨_, rfl⟩
  rw [← hn1] at b1 ⊢
  have N1 := Lib.hid hn1
  clear hn1
  have b2 := lim_of g2 m2
  have K2 := Lib.hid R2
  clear R2 g2 m2
  obtain ⟨n2, hn2⟩ : ∃ n, n = C.txs.length := ⟨_, rfl⟩
  rw [← hn2] at b2 ⊢
  have N2 := Lib.hid hn2
  clear hn2
  have b3 := lim_of g3 m3
  have K3 := Lib.hid R3
  clear R3 g3 m3
  obtain ⟨n3, hn3⟩ : ∃ n, n = C.rgs.length := ⟨_, rfl⟩
  rw [← hn3] at b3 ⊢
  have N3 := Lib.hid hn3
  clear hn3
  have b4 := lim_of g4 m4
  have K4 := Lib.hid R4
  clear R4 g4 m4
  obtain ⟨n4, hn4⟩ : ∃ n, n = C.nds.length := ⟨_, rfl⟩
  rw [← hn4] at b4 ⊢
  have N4 := Lib.hid hn4
  clear hn4
  have b5 := lim_of g5 m5
  have K5 := Lib.hid R5
  clear R5 g5 m5
  obtain ⟨n5, hn5⟩ : ∃ n, n = C.hds.length := ⟨_, rfl⟩
  rw [← hn5] at b5 ⊢
  have N5 := Lib.hid hn5
  clear hn5
  have b6 := lim_of g6 m6
  have K6 := Lib.hid R6
  clear R6 g6 m6
  obtain ⟨n6, hn6⟩ : ∃ n, n = C.rls.length := ⟨_, rfl⟩
  rw [← hn6] at b6 ⊢
  have N6 := Lib.hid hn6
  clear hn6
  have H0 := Bx.new w #[.slice A0 n0 c0, .slice A1 n1 c1, .slice A2 n2 c2, .slice A3 n3 c3, .slice A4 n4 c4, .slice A5 n5 c5, .slice A6 n6 c6] 30
  go_enter Tryz.func19, Tryz.ntmps19
  go_wp2_with fail
  obtain ⟨cb, hcb⟩ : ∃ cb, cb = w.heap.size := ⟨_, rfl⟩
  rw [← hcb]
  rw [← hcb] at H0
  clear hcb
  generalize w.alloc (.cells #[.slice A0 n0 c0, .slice A1 n1 c1, .slice A2 n2 c2, .slice A3 n3 c3, .slice A4 n4 c4, .slice A5 n5 c5, .slice A6 n6 c6] 30) = w1 at *
  obtain ⟨X, hX⟩ : ∃ X, X = (#[.slice A0 n0 c0, .slice A1 n1 c1, .slice A2 n2 c2, .slice A3 n3 c3, .slice A4 n4 c4, .slice A5 n5 c5, .slice A6 n6 c6] : Array Value) := ⟨_, rfl⟩
  rw [← hX] at H0
  have X0 : X[0]? = some (.slice A0 n0 c0) := by rw [hX]; rfl
  have X0 := Lib.hid X0
  have X1 : X[1]? = some (.slice A1 n1 c1) := by rw [hX]; rfl
  have X1 := Lib.hid X1
  have X2 : X[2]? = some (.slice A2 n2 c2) := by rw [hX]; rfl
  have X2 := Lib.hid X2
  have X3 : X[3]? = some (.slice A3 n3 c3) := by rw [hX]; rfl
  have X3 := Lib.hid X3
  have X4 : X[4]? = some (.slice A4 n4 c4) := by rw [hX]; rfl
  have X4 := Lib.hid X4
  have X5 : X[5]? = some (.slice A5 n5 c5) := by rw [hX]; rfl
  have X5 := Lib.hid X5
  have X6 : X[6]? = some (.slice A6 n6 c6) := by rw [hX]; rfl
  have X6 := Lib.hid X6
  clear hX
  have f0 := (H0.c 0).trans X0.out
  go_loopg [3, 28] n0 (fun q u v w' => ∃ z, ∃ i : Nat, i + q = n0 ∧ u = .int .i64 z ∧ v = .int .i64 i ∧ Aside (Bx w w' cb X 30))
  case atStart => exact ⟨_, 0, by omega, rfl, rfl, ⟨H0⟩⟩
  case round =>
    clear H0
    obtain ⟨z, i, hi, rfl, rfl, HX⟩ := hrel
    have HX := Lib.hid HX.out
    by_cases hlt : i < n0
    · obtain ⟨a, r, rfl, ⟨rfl, h3⟩, hA⟩ := K0.out i _ (List.getElem?_eq_getElem (by have := N0.out; omega))
      generalize C.ats[i]'(by have := N0.out; omega) = y at *
      have p0 : (0 : Int) ≤ i := by omega
      have p1 : decide ((i : Int) < n0) = true := by simpa using hlt
      have hA1 := hA.below HX.out.b
      have e0 := hA1.c0
      have e1 := hA1.c1
      clear hA hA1
      go_wp2_with fail
      go_roundg (gk - 1)
      case measure => omega
      case rel => exact ⟨_, i + 1, by omega, rfl, rfl, ⟨HX.out.alloc _⟩⟩
    · have p1 : decide ((i : Int) < n0) = false := by simpa using hlt
      have f1 := (HX.out.c 1).trans X1.out
      go_wp2_with fail
      go_loopg [3, 41] n1 (fun q u v w' => ∃ z, ∃ i : Nat, i + q = n1 ∧ u = .int .i64 z ∧ v = .int .i64 i ∧ Aside (Bx w w' cb X 30))
      case atStart => exact ⟨_, 0, by omega, rfl, rfl, ⟨HX.out⟩⟩
      case round =>
        clear HX
        obtain ⟨z, i, hi, rfl, rfl, HX⟩ := hrel
        have HX := Lib.hid HX.out
        by_cases hlt : i < n1
        · obtain ⟨a, r, rfl, ⟨u, rfl, ⟨B, cB, rfl, gB, mB, RB⟩⟩, hA⟩ := K1.out i _ (List.getElem?_eq_getElem (by have := N1.out; omega))
          generalize C.tks[i]'(by have := N1.out; omega) = y at *
          have p0 : (0 : Int) ≤ i := by omega
          have p1 : decide ((i : Int) < n1) = true := by simpa using hlt
          have hA1 := hA.below HX.out.b
          have e0 := hA1.c0
          rw [Nat.mul_one] at e0
          clear hA hA1
          have bB := lim_of gB mB
          have KB := Lib.hid RB
          obtain ⟨nB, hnB⟩ : ∃ n, n = y.length := ⟨_, rfl⟩
          rw [← hnB] at e0 bB
          have NB := Lib.hid hnB
          clear RB gB mB hnB
          go_wp2_with fail
          go_loopg [3, 49] nB (fun q u v w' => ∃ z, ∃ i : Nat, i + q = nB ∧ u = .int .i64 z ∧ v = .int .i64 i ∧ w' = wr)
          case atStart => exact ⟨_, 0, by omega, rfl, rfl, rfl⟩
          case round =>
            obtain ⟨z2, j, hj, rfl, rfl, rfl⟩ := hrel
            by_cases hlt2 : j < nB
            · obtain ⟨a2, r2, rfl, ⟨rfl, h3⟩, hA2⟩ := KB.out j _ (List.getElem?_eq_getElem (by have := NB.out; omega))
              generalize y[j]'(by have := NB.out; omega) = s at *
              have p2 : (0 : Int) ≤ j := by omega
              have p3 : decide ((j : Int) < nB) = true := by simpa using hlt2
              have e4 := (hA2.below HX.out.b).c0
              rw [Nat.mul_one] at e4
              clear hA2
              go_wp2_with fail
              go_roundg (gk - 1)
              case measure => omega
              case rel => exact ⟨_, j + 1, by omega, rfl, rfl, rfl⟩
            · have p3 : decide ((j : Int) < nB) = false := by simpa using hlt2
              go_wp2_with fail
              go_roundg (n1 - (i + 1))
              case measure => omega
              case rel => exact ⟨_, i + 1, by omega, rfl, rfl, ⟨HX.out⟩⟩
        · have p1 : decide ((i : Int) < n1) = false := by simpa using hlt
          have f2 := (HX.out.c 2).trans X2.out
          go_wp2_with fail
          go_loopg [3, 63] n2 (fun q u v w' => ∃ z, ∃ i : Nat, i + q = n2 ∧ u = .int .i64 z ∧ v = .int .i64 i ∧ Aside (Bx w w' cb X 30))
          case atStart => exact ⟨_, 0, by omega, rfl, rfl, ⟨HX.out⟩⟩
          case round =>
            clear HX
            obtain ⟨z, i, hi, rfl, rfl, HX⟩ := hrel
            have HX := Lib.hid HX.out
            by_cases hlt : i < n2
            · obtain ⟨a, r, rfl, ⟨u, rfl, hK, hs, hb, he⟩, hA⟩ := K2.out i _ (List.getElem?_eq_getElem (by have := N2.out; omega))
              generalize C.txs[i]'(by have := N2.out; omega) = y at *
              have p0 : (0 : Int) ≤ i := by omega
              have p1 : decide ((i : Int) < n2) = true := by simpa using hlt
              have hA1 := hA.below HX.out.b
              have e0 := hA1.c0
              have e1 := hA1.c1
              have e2 := hA1.c2
              have e3 := hA1.c3
              clear hA hA1
              have hK1 := hK.below HX.out.b
              obtain ⟨B, cB, rfl, RB⟩ := hK
              clear RB
              generalize hm : y.ks.length = m at *
              go_wp2_with fail
              have HT := Bx.new wr #[.string y.nm, .int .i64 y.b, .int .i64 y.e, .slice B m cB] 85
              have HX2 := HX.out.alloc (.cells #[.string y.nm, .int .i64 y.b, .int .i64 y.e, .slice B m cB] 85)
              have hK2 := hK1.below ((Below.refl wr.heap.size wr).alloc (Nat.le_refl _) (.cells #[.string y.nm, .int .i64 y.b, .int .i64 y.e, .slice B m cB] 85))
              obtain ⟨tb, htb⟩ : ∃ tb, tb = wr.heap.size := ⟨_, rfl⟩
              rw [← htb]
              rw [← htb] at HT
              clear htb hK1
              generalize wr.alloc (.cells #[.string y.nm, .int .i64 y.b, .int .i64 y.e, .slice B m cB] 85) = wq at *
              have hx3 := HT.x
              have q0 := blk_cell hx3 0
              have q3 := blk_cell hx3 3
              simp at q0 q3
              have HQ := Lib.hid HX2
              clear HX2 e0 e1 e2 e3 HT
              go_region_held3 (fun w' => w'.cell? ⟨tb, 0, none⟩ = some (.string y.nm) ∧ w'.cell? ⟨tb, 3, none⟩ = some (.slice B m cB) ∧ Aside (Bx w w' cb X 30)) (first | exact ⟨q0, q3, ⟨HQ.out.drew⟩⟩ | exact ⟨blk_cell (blk_below (w := wq.drew) hx3 hb4) 0, blk_cell (blk_below (w := wq.drew) hx3 hb4) 3, ⟨HQ.out.drew.up hb4⟩⟩)
                (first | (go_at_call 33; refine (weight6 _ _ _ (hK2.below ((Below.refl wq.heap.size wq).drew))).mono ?_; rintro r w4 ⟨⟨z4, rfl⟩, hb4⟩))
              have hs2 := (by assumption : _ ∧ _ ∧ Aside (Bx w _ cb X 30)).2.2
              go_wp2_with fail
              go_roundg (gk - 1)
              case measure => omega
              case rel => exact ⟨_, i + 1, by omega, rfl, rfl, ⟨hs2.out⟩⟩
            · have p1 : decide ((i : Int) < n2) = false := by simpa using hlt
              have f3 := (HX.out.c 3).trans X3.out
              go_wp2_with fail
              go_loopg [3, 81] n3 (fun q u v w' => ∃ z, ∃ i : Nat, i + q = n3 ∧ u = .int .i64 z ∧ v = .int .i64 i ∧ Aside (Bx w w' cb X 30))
              case atStart => exact ⟨_, 0, by omega, rfl, rfl, ⟨HX.out⟩⟩
              case round =>
                clear HX
                obtain ⟨z, i, hi, rfl, rfl, HX⟩ := hrel
                have HX := Lib.hid HX.out
                by_cases hlt : i < n3
                · obtain ⟨a, r, rfl, ⟨u, rfl, hK, hs, hb, he⟩, hA⟩ := K3.out i _ (List.getElem?_eq_getElem (by have := N3.out; omega))
                  generalize C.rgs[i]'(by have := N3.out; omega) = y at *
                  have p0 : (0 : Int) ≤ i := by omega
                  have p1 : decide ((i : Int) < n3) = true := by simpa using hlt
                  have hA1 := hA.below HX.out.b
                  have e0 := hA1.c0
                  have e1 := hA1.c1
                  have e2 := hA1.c2
                  have e3 := hA1.c3
                  clear hA hA1
                  have hK1 := hK.below HX.out.b
                  obtain ⟨B, cB, rfl, RB⟩ := hK
                  clear RB
                  generalize hm : y.ks.length = m at *
                  go_wp2_with fail
                  have HT := Bx.new wr #[.string y.nm, .int .i64 y.b, .int .i64 y.e, .slice B m cB] 78
                  have HX2 := HX.out.alloc (.cells #[.string y.nm, .int .i64 y.b, .int .i64 y.e, .slice B m cB] 78)
                  have hK2 := hK1.below ((Below.refl wr.heap.size wr).alloc (Nat.le_refl _) (.cells #[.string y.nm, .int .i64 y.b, .int .i64 y.e, .slice B m cB] 78))
                  obtain ⟨tb, htb⟩ : ∃ tb, tb = wr.heap.size := ⟨_, rfl⟩
                  rw [← htb]
                  rw [← htb] at HT
                  clear htb hK1
                  generalize wr.alloc (.cells #[.string y.nm, .int .i64 y.b, .int .i64 y.e, .slice B m cB] 78) = wq at *
                  have hx3 := HT.x
                  have q0 := blk_cell hx3 0
                  have q3 := blk_cell hx3 3
                  simp at q0 q3
                  have HQ := Lib.hid HX2
                  clear HX2 e0 e1 e2 e3 HT
                  go_region_held3 (fun w' => w'.cell? ⟨tb, 0, none⟩ = some (.string y.nm) ∧ w'.cell? ⟨tb, 3, none⟩ = some (.slice B m cB) ∧ Aside (Bx w w' cb X 30)) (first | exact ⟨q0, q3, ⟨HQ.out.drew⟩⟩ | exact ⟨blk_cell (blk_below (w := wq.drew) hx3 hb4) 0, blk_cell (blk_below (w := wq.drew) hx3 hb4) 3, ⟨HQ.out.drew.up hb4⟩⟩)
                    (first | (go_at_call 33; refine (weight6 _ _ _ (hK2.below ((Below.refl wq.heap.size wq).drew))).mono ?_; rintro r w4 ⟨⟨z4, rfl⟩, hb4⟩))
                  have hs2 := (by assumption : _ ∧ _ ∧ Aside (Bx w _ cb X 30)).2.2
                  go_wp2_with fail
                  go_roundg (gk - 1)
                  case measure => omega
                  case rel => exact ⟨_, i + 1, by omega, rfl, rfl, ⟨hs2.out⟩⟩
                · have p1 : decide ((i : Int) < n3) = false := by simpa using hlt
                  have f4 := (HX.out.c 4).trans X4.out
                  go_wp2_with fail
                  go_loopg [3, 99] n4 (fun q u v w' => ∃ z, ∃ i : Nat, i + q = n4 ∧ u = .int .i64 z ∧ v = .int .i64 i ∧ Aside (Bx w w' cb X 30))
                  case atStart => exact ⟨_, 0, by omega, rfl, rfl, ⟨HX.out⟩⟩
                  case round =>
                    clear HX
                    obtain ⟨z, i, hi, rfl, rfl, HX⟩ := hrel
                    have HX := Lib.hid HX.out
                    by_cases hlt : i < n4
                    · obtain ⟨a, r, rfl, ⟨rfl, h3, h4, h5, h6⟩, hA⟩ := K4.out i _ (List.getElem?_eq_getElem (by have := N4.out; omega))
                      generalize C.nds[i]'(by have := N4.out; omega) = y at *
                      have p0 : (0 : Int) ≤ i := by omega
                      have p1 : decide ((i : Int) < n4) = true := by simpa using hlt
                      have hA1 := hA.below HX.out.b
                      have e0 := hA1.c0
                      have e1 := hA1.c1
                      have e2 := hA1.c2
                      have e3 := hA1.c3
                      clear hA hA1
                      go_wp2_with fail
                      go_roundg (gk - 1)
                      case measure => omega
                      case rel => exact ⟨_, i + 1, by omega, rfl, rfl, ⟨HX.out.alloc _⟩⟩
                    · have p1 : decide ((i : Int) < n4) = false := by simpa using hlt
                      have f6 := (HX.out.c 6).trans X6.out
                      go_wp2_with fail
                      go_loopg [3, 113] n6 (fun q u v w' => ∃ z, ∃ i : Nat, i + q = n6 ∧ u = .int .i64 z ∧ v = .int .i64 i ∧ Aside (Bx w w' cb X 30))
                      case atStart => exact ⟨_, 0, by omega, rfl, rfl, ⟨HX.out⟩⟩
                      case round =>
                        clear HX
                        obtain ⟨z, i, hi, rfl, rfl, HX⟩ := hrel
                        have HX := Lib.hid HX.out
                        by_cases hlt : i < n6
                        · obtain ⟨a, r, rfl, ⟨rfl, h3⟩, hA⟩ := K6.out i _ (List.getElem?_eq_getElem (by have := N6.out; omega))
                          generalize C.rls[i]'(by have := N6.out; omega) = y at *
                          have p0 : (0 : Int) ≤ i := by omega
                          have p1 : decide ((i : Int) < n6) = true := by simpa using hlt
                          have hA1 := hA.below HX.out.b
                          have e0 := hA1.c0
                          rw [Nat.mul_one] at e0
                          clear hA hA1
                          go_wp2_with fail
                          go_roundg (gk - 1)
                          case measure => omega
                          case rel => exact ⟨_, i + 1, by omega, rfl, rfl, ⟨HX.out⟩⟩
                        · have p1 : decide ((i : Int) < n6) = false := by simpa using hlt
                          go_wp2_with fail
                          go_ret
                          exact ⟨⟨_, rfl⟩, HX.out.b⟩
end Go.Proofs.YthjcmodhleoocaaGreatDoor.Z
