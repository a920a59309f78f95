/- For every corpus that comes in, TopConstituents returns true and leaves the corpus as it was; the listed variables are tied to the program's text. (Part 8.) -/
import Derived.Test.YthjcmodhleoocaaGreatDoorMT7
import Derived.Test.YthjcmodhleoocaaGreatDoorMT5
import Derived.Test.YthjcmodhleoocaaGreatDoorMT6
set_option linter.unusedVariables false
set_option linter.unusedSimpArgs false
set_option linter.unusedSectionVars false
/- ZAssign2 -/
namespace Go.Proofs.YthjcmodhleoocaaGreatDoor.Z
open Go Go.RowKit Go.Lib
set_option linter.unusedVariables false
set_option linter.unusedSimpArgs false
open Go.Proofs.YthjcmodhleoocaaGreatDoor.TP (kidsOf kd visL LabOf Forest vis NS Lab)
set_option maxRecDepth 100000 in
set_option maxHeartbeats 16000000 in
theorem assign6 (w0 : World) (v : Value) (ps : List Int) (hI : Is w0 v ps) (hp : ∀ (i : Nat) z, ps[i]? = some z → -1 ≤ z ∧ z < i) (hF : Forest ps) (hn : ps.length ≤ 1000) :
    Calls Tryz.prog 6 #[v] w0 fun r w' => (∃ bl t, r = .returned (.tuple #[.slice (some ⟨bl, 0, none⟩) ps.length ps.length, .int .i64 0, .int .i64 0]) ∧ visL ps ps.length (kidsOf ps (-1)) 0 (blank ps.length) = some t ∧ LabOf ps t.L ∧ (∀ (j : Nat) x, t.L[j]? = some x → w'.cell? ⟨bl, j * 3, none⟩ = some (.int .i64 (x.pre : Int)) ∧ w'.cell? ⟨bl, j * 3 + 1, none⟩ = some (.int .i64 (x.post : Int)) ∧ w'.cell? ⟨bl, j * 3 + 2, none⟩ = some (.int .i64 (x.dep : Int)))) ∧ Below w0.heap.size w0 w' := by
  have CK := Lib.hid (check21 w0 v ps hI hp hn)
  obtain ⟨A, c, rfl, hnc, hcm, hR⟩ := hI
  clear hnc hcm
  obtain ⟨n, hnl⟩ : ∃ n, n = ps.length := ⟨_, rfl⟩
  rw [← hnl] at hn CK ⊢
  have HFO := Lib.hid hF
  clear hF
  have KP := Lib.hid hR
  have N := Lib.hid hnl
  have HP := Lib.hid hp
  clear hR hnl hp
  go_enter Tryz.func6, Tryz.ntmps6
  go_wp2_with (go_at_call 21; refine CK.out.mono ?_; rintro r w ⟨rfl, HB0⟩)
  refine T_start (fun _ : World => True) 8 (n := 9) (by kernel_rfl) rfl rfl ?_
  simp only [Array.replicate_succ, Array.replicate_zero, List.push_toArray, List.nil_append, List.cons_append]
  refine tk 0 22 (by kernel_rfl) trivial (h := ?_)
  refine tk 1 23 (by kernel_rfl) trivial (h := ?_)
  refine tk 3 25 (by kernel_rfl) trivial (h := ?_)
  refine tk 4 26 (by kernel_rfl) trivial (h := ?_)
  refine br3 (w0 := w) n (fun c a d v w h => by cases d <;> exact h) (fun Q hP hQ => ?_) (fun bc bl bw w1 HF => ?_)
  · have hBd : Below w.heap.size w w.drew := (Below.refl _ w).drew
    have s0 : w.heap.size ≤ w.drew.heap.size := Nat.le_refl _
    generalize w.drew = wd at *
    refine anyOf 2 [5, 7] (by kernel_rfl) (fun i hi => ?_)
    simp only [List.mem_cons, List.not_mem_nil, or_false] at hi
    rcases hi with rfl | rfl | rfl
    · refine wpOp_of rfl rfl (wp_makeZ (z := .slice none 0 0) (size := 1) (bytes := 24) Tryz.underlying59 (by kernel_rfl) (by omega) _ _ rfl n _ _ rfl rfl (by omega) w.heap.size s0 ?_)
      intro v1 hC g1
      rw [row59] at hC
      have s1 : w.heap.size ≤ v1.heap.size := Nat.le_trans s0 g1.size
      refine ⟨fun _ => trivial, ?_⟩
      simp only [Act.put, List.setIfInBounds_toArray, List.set_cons_zero, List.set_cons_succ]
      refine anyOf 5 [7] (by kernel_rfl) (fun i hi => ?_)
      simp only [List.mem_cons, List.not_mem_nil, or_false] at hi
      rcases hi with rfl | rfl
      · refine wpOp_of rfl rfl (wp_makeZ (z := zl) (size := 3) (bytes := 24) Tryz.underlying34 (by kernel_rfl) (by omega) _ _ rfl n _ _ rfl rfl (by omega) w.heap.size s1 ?_)
        intro v2 hL g2
        have s2 : w.heap.size ≤ v2.heap.size := Nat.le_trans s1 g2.size
        refine ⟨fun _ => trivial, ?_⟩
        simp only [Act.put, List.setIfInBounds_toArray, List.set_cons_zero, List.set_cons_succ]
        refine tk 6 28 (by kernel_rfl) trivial (hQ := fun _ _ _ h => hP _ _ _ _ _ h) (h := ?_)
        refine anyOf 7 [] (by kernel_rfl) (fun i hi => ?_)
        simp only [List.mem_cons, List.not_mem_nil, or_false] at hi
        subst hi
        refine wpOp_of rfl rfl ?_
        go_simp
        have hA := blk_new (v2) (.cells #[.slice none 0 0, .slice none 0 0, .int .i64 0, .int .i64 0] 61)
        have g3 := World.grownBy_alloc (v2) (.cells #[.slice none 0 0, .slice none 0 0, .int .i64 0, .int .i64 0] 61) none
        have s3 : w.heap.size ≤ ((v2).alloc (.cells #[.slice none 0 0, .slice none 0 0, .int .i64 0, .int .i64 0] 61)).heap.size := Nat.le_trans s2 g3.size
        generalize (v2).alloc (.cells #[.slice none 0 0, .slice none 0 0, .int .i64 0, .int .i64 0] 61) = v3 at *
        try simp only [Act.put, List.setIfInBounds_toArray, List.set_cons_zero, List.set_cons_succ]
        have fC := (World.ownsRow.kept (World.ownsRow.kept hC g2 (.inr (fun e => nomatch e))) g3 (.inr (fun e => nomatch e)))
        have fL := (World.ownsRow.kept hL g3 (.inr (fun e => nomatch e)))
        have fA := hA
        have fB : Below w.heap.size w v3 := ((hBd.grown g1 s0 (fun k hk => nomatch hk)).grown g2 s1 (fun k hk => nomatch hk)).grown g3 s2 (fun k hk => nomatch hk)
        have c0 := blk_cell fA 0
        have c1 := blk_cell fA 1
        have c2 := blk_cell fA 2
        have c3 := blk_cell fA 3
        have c4 := blk_frozen fA 0
        have c5 := blk_frozen fA 1
        have c6 := blk_frozen fA 2
        have c7 := blk_frozen fA 3
        simp at c0 c1 c2 c3
        refine one 8 (h := ?_)
        intro K hK
        go_simp
        refine hK _ _ (fun h => absurd rfl h) (T_done ?_)
        have := hQ _ _ _ _ (F3.of fC fL fA fB s2)
        simp only [Act.put, List.setIfInBounds_toArray, List.set_cons_zero, List.set_cons_succ] at this
        exact this
      · refine wpOp_of rfl rfl ?_
        go_simp
        have hA := blk_new (v1) (.cells #[.slice none 0 0, .slice none 0 0, .int .i64 0, .int .i64 0] 61)
        have g2 := World.grownBy_alloc (v1) (.cells #[.slice none 0 0, .slice none 0 0, .int .i64 0, .int .i64 0] 61) none
        have s2 : w.heap.size ≤ ((v1).alloc (.cells #[.slice none 0 0, .slice none 0 0, .int .i64 0, .int .i64 0] 61)).heap.size := Nat.le_trans s1 g2.size
        generalize (v1).alloc (.cells #[.slice none 0 0, .slice none 0 0, .int .i64 0, .int .i64 0] 61) = v2 at *
        try simp only [Act.put, List.setIfInBounds_toArray, List.set_cons_zero, List.set_cons_succ]
        refine anyOf 5 [] (by kernel_rfl) (fun i hi => ?_)
        simp only [List.mem_cons, List.not_mem_nil, or_false] at hi
        subst hi
        refine wpOp_of rfl rfl (wp_makeZ (z := zl) (size := 3) (bytes := 24) Tryz.underlying34 (by kernel_rfl) (by omega) _ _ rfl n _ _ rfl rfl (by omega) w.heap.size s2 ?_)
        intro v3 hL g3
        have s3 : w.heap.size ≤ v3.heap.size := Nat.le_trans s2 g3.size
        refine ⟨fun _ => trivial, ?_⟩
        simp only [Act.put, List.setIfInBounds_toArray, List.set_cons_zero, List.set_cons_succ]
        refine tk 6 28 (by kernel_rfl) trivial (hQ := fun _ _ _ h => hP _ _ _ _ _ h) (h := ?_)
        have fC := (World.ownsRow.kept (World.ownsRow.kept hC g2 (.inr (fun e => nomatch e))) g3 (.inr (fun e => nomatch e)))
        have fL := hL
        have fA := ((g3.block _ (blk_lt hA) (fun e => nomatch e)).trans hA)
        have fB : Below w.heap.size w v3 := ((hBd.grown g1 s0 (fun k hk => nomatch hk)).grown g2 s1 (fun k hk => nomatch hk)).grown g3 s2 (fun k hk => nomatch hk)
        have c0 := blk_cell fA 0
        have c1 := blk_cell fA 1
        have c2 := blk_cell fA 2
        have c3 := blk_cell fA 3
        have c4 := blk_frozen fA 0
        have c5 := blk_frozen fA 1
        have c6 := blk_frozen fA 2
        have c7 := blk_frozen fA 3
        simp at c0 c1 c2 c3
        refine one 8 (h := ?_)
        intro K hK
        go_simp
        refine hK _ _ (fun h => absurd rfl h) (T_done ?_)
        have := hQ _ _ _ _ (F3.of fC fL fA fB s1)
        simp only [Act.put, List.setIfInBounds_toArray, List.set_cons_zero, List.set_cons_succ] at this
        exact this
    · refine wpOp_of rfl rfl (wp_makeZ (z := zl) (size := 3) (bytes := 24) Tryz.underlying34 (by kernel_rfl) (by omega) _ _ rfl n _ _ rfl rfl (by omega) w.heap.size s0 ?_)
      intro v1 hL g1
      have s1 : w.heap.size ≤ v1.heap.size := Nat.le_trans s0 g1.size
      refine ⟨fun _ => trivial, ?_⟩
      simp only [Act.put, List.setIfInBounds_toArray, List.set_cons_zero, List.set_cons_succ]
      refine anyOf 2 [7] (by kernel_rfl) (fun i hi => ?_)
      simp only [List.mem_cons, List.not_mem_nil, or_false] at hi
      rcases hi with rfl | rfl
      · refine wpOp_of rfl rfl (wp_makeZ (z := .slice none 0 0) (size := 1) (bytes := 24) Tryz.underlying59 (by kernel_rfl) (by omega) _ _ rfl n _ _ rfl rfl (by omega) w.heap.size s1 ?_)
        intro v2 hC g2
        rw [row59] at hC
        have s2 : w.heap.size ≤ v2.heap.size := Nat.le_trans s1 g2.size
        refine ⟨fun _ => trivial, ?_⟩
        simp only [Act.put, List.setIfInBounds_toArray, List.set_cons_zero, List.set_cons_succ]
        refine tk 6 28 (by kernel_rfl) trivial (hQ := fun _ _ _ h => hP _ _ _ _ _ h) (h := ?_)
        refine anyOf 7 [] (by kernel_rfl) (fun i hi => ?_)
        simp only [List.mem_cons, List.not_mem_nil, or_false] at hi
        subst hi
        refine wpOp_of rfl rfl ?_
        go_simp
        have hA := blk_new (v2) (.cells #[.slice none 0 0, .slice none 0 0, .int .i64 0, .int .i64 0] 61)
        have g3 := World.grownBy_alloc (v2) (.cells #[.slice none 0 0, .slice none 0 0, .int .i64 0, .int .i64 0] 61) none
        have s3 : w.heap.size ≤ ((v2).alloc (.cells #[.slice none 0 0, .slice none 0 0, .int .i64 0, .int .i64 0] 61)).heap.size := Nat.le_trans s2 g3.size
        generalize (v2).alloc (.cells #[.slice none 0 0, .slice none 0 0, .int .i64 0, .int .i64 0] 61) = v3 at *
        try simp only [Act.put, List.setIfInBounds_toArray, List.set_cons_zero, List.set_cons_succ]
        have fC := (World.ownsRow.kept hC g3 (.inr (fun e => nomatch e)))
        have fL := (World.ownsRow.kept (World.ownsRow.kept hL g2 (.inr (fun e => nomatch e))) g3 (.inr (fun e => nomatch e)))
        have fA := hA
        have fB : Below w.heap.size w v3 := ((hBd.grown g1 s0 (fun k hk => nomatch hk)).grown g2 s1 (fun k hk => nomatch hk)).grown g3 s2 (fun k hk => nomatch hk)
        have c0 := blk_cell fA 0
        have c1 := blk_cell fA 1
        have c2 := blk_cell fA 2
        have c3 := blk_cell fA 3
        have c4 := blk_frozen fA 0
        have c5 := blk_frozen fA 1
        have c6 := blk_frozen fA 2
        have c7 := blk_frozen fA 3
        simp at c0 c1 c2 c3
        refine one 8 (h := ?_)
        intro K hK
        go_simp
        refine hK _ _ (fun h => absurd rfl h) (T_done ?_)
        have := hQ _ _ _ _ (F3.of fC fL fA fB s2)
        simp only [Act.put, List.setIfInBounds_toArray, List.set_cons_zero, List.set_cons_succ] at this
        exact this
      · refine wpOp_of rfl rfl ?_
        go_simp
        have hA := blk_new (v1) (.cells #[.slice none 0 0, .slice none 0 0, .int .i64 0, .int .i64 0] 61)
        have g2 := World.grownBy_alloc (v1) (.cells #[.slice none 0 0, .slice none 0 0, .int .i64 0, .int .i64 0] 61) none
        have s2 : w.heap.size ≤ ((v1).alloc (.cells #[.slice none 0 0, .slice none 0 0, .int .i64 0, .int .i64 0] 61)).heap.size := Nat.le_trans s1 g2.size
        generalize (v1).alloc (.cells #[.slice none 0 0, .slice none 0 0, .int .i64 0, .int .i64 0] 61) = v2 at *
        try simp only [Act.put, List.setIfInBounds_toArray, List.set_cons_zero, List.set_cons_succ]
        refine anyOf 2 [] (by kernel_rfl) (fun i hi => ?_)
        simp only [List.mem_cons, List.not_mem_nil, or_false] at hi
        subst hi
        refine wpOp_of rfl rfl (wp_makeZ (z := .slice none 0 0) (size := 1) (bytes := 24) Tryz.underlying59 (by kernel_rfl) (by omega) _ _ rfl n _ _ rfl rfl (by omega) w.heap.size s2 ?_)
        intro v3 hC g3
        rw [row59] at hC
        have s3 : w.heap.size ≤ v3.heap.size := Nat.le_trans s2 g3.size
        refine ⟨fun _ => trivial, ?_⟩
        simp only [Act.put, List.setIfInBounds_toArray, List.set_cons_zero, List.set_cons_succ]
        refine tk 6 28 (by kernel_rfl) trivial (hQ := fun _ _ _ h => hP _ _ _ _ _ h) (h := ?_)
        have fC := hC
        have fL := (World.ownsRow.kept (World.ownsRow.kept hL g2 (.inr (fun e => nomatch e))) g3 (.inr (fun e => nomatch e)))
        have fA := ((g3.block _ (blk_lt hA) (fun e => nomatch e)).trans hA)
        have fB : Below w.heap.size w v3 := ((hBd.grown g1 s0 (fun k hk => nomatch hk)).grown g2 s1 (fun k hk => nomatch hk)).grown g3 s2 (fun k hk => nomatch hk)
        have c0 := blk_cell fA 0
        have c1 := blk_cell fA 1
        have c2 := blk_cell fA 2
        have c3 := blk_cell fA 3
        have c4 := blk_frozen fA 0
        have c5 := blk_frozen fA 1
        have c6 := blk_frozen fA 2
        have c7 := blk_frozen fA 3
        simp at c0 c1 c2 c3
        refine one 8 (h := ?_)
        intro K hK
        go_simp
        refine hK _ _ (fun h => absurd rfl h) (T_done ?_)
        have := hQ _ _ _ _ (F3.of fC fL fA fB s1)
        simp only [Act.put, List.setIfInBounds_toArray, List.set_cons_zero, List.set_cons_succ] at this
        exact this
    · refine wpOp_of rfl rfl ?_
      go_simp
      have hA := blk_new (wd) (.cells #[.slice none 0 0, .slice none 0 0, .int .i64 0, .int .i64 0] 61)
      have g1 := World.grownBy_alloc (wd) (.cells #[.slice none 0 0, .slice none 0 0, .int .i64 0, .int .i64 0] 61) none
      have s1 : w.heap.size ≤ ((wd).alloc (.cells #[.slice none 0 0, .slice none 0 0, .int .i64 0, .int .i64 0] 61)).heap.size := Nat.le_trans s0 g1.size
      generalize (wd).alloc (.cells #[.slice none 0 0, .slice none 0 0, .int .i64 0, .int .i64 0] 61) = v1 at *
      try simp only [Act.put, List.setIfInBounds_toArray, List.set_cons_zero, List.set_cons_succ]
      refine anyOf 2 [5] (by kernel_rfl) (fun i hi => ?_)
      simp only [List.mem_cons, List.not_mem_nil, or_false] at hi
      rcases hi with rfl | rfl
      · refine wpOp_of rfl rfl (wp_makeZ (z := .slice none 0 0) (size := 1) (bytes := 24) Tryz.underlying59 (by kernel_rfl) (by omega) _ _ rfl n _ _ rfl rfl (by omega) w.heap.size s1 ?_)
        intro v2 hC g2
        rw [row59] at hC
        have s2 : w.heap.size ≤ v2.heap.size := Nat.le_trans s1 g2.size
        refine ⟨fun _ => trivial, ?_⟩
        simp only [Act.put, List.setIfInBounds_toArray, List.set_cons_zero, List.set_cons_succ]
        refine anyOf 5 [] (by kernel_rfl) (fun i hi => ?_)
        simp only [List.mem_cons, List.not_mem_nil, or_false] at hi
        subst hi
        refine wpOp_of rfl rfl (wp_makeZ (z := zl) (size := 3) (bytes := 24) Tryz.underlying34 (by kernel_rfl) (by omega) _ _ rfl n _ _ rfl rfl (by omega) w.heap.size s2 ?_)
        intro v3 hL g3
        have s3 : w.heap.size ≤ v3.heap.size := Nat.le_trans s2 g3.size
        refine ⟨fun _ => trivial, ?_⟩
        simp only [Act.put, List.setIfInBounds_toArray, List.set_cons_zero, List.set_cons_succ]
        refine tk 6 28 (by kernel_rfl) trivial (hQ := fun _ _ _ h => hP _ _ _ _ _ h) (h := ?_)
        have fC := (World.ownsRow.kept hC g3 (.inr (fun e => nomatch e)))
        have fL := hL
        have fA := ((g3.block _ (blk_lt ((g2.block _ (blk_lt hA) (fun e => nomatch e)).trans hA)) (fun e => nomatch e)).trans ((g2.block _ (blk_lt hA) (fun e => nomatch e)).trans hA))
        have fB : Below w.heap.size w v3 := ((hBd.grown g1 s0 (fun k hk => nomatch hk)).grown g2 s1 (fun k hk => nomatch hk)).grown g3 s2 (fun k hk => nomatch hk)
        have c0 := blk_cell fA 0
        have c1 := blk_cell fA 1
        have c2 := blk_cell fA 2
        have c3 := blk_cell fA 3
        have c4 := blk_frozen fA 0
        have c5 := blk_frozen fA 1
        have c6 := blk_frozen fA 2
        have c7 := blk_frozen fA 3
        simp at c0 c1 c2 c3
        refine one 8 (h := ?_)
        intro K hK
        go_simp
        refine hK _ _ (fun h => absurd rfl h) (T_done ?_)
        have := hQ _ _ _ _ (F3.of fC fL fA fB s0)
        simp only [Act.put, List.setIfInBounds_toArray, List.set_cons_zero, List.set_cons_succ] at this
        exact this
      · refine wpOp_of rfl rfl (wp_makeZ (z := zl) (size := 3) (bytes := 24) Tryz.underlying34 (by kernel_rfl) (by omega) _ _ rfl n _ _ rfl rfl (by omega) w.heap.size s1 ?_)
        intro v2 hL g2
        have s2 : w.heap.size ≤ v2.heap.size := Nat.le_trans s1 g2.size
        refine ⟨fun _ => trivial, ?_⟩
        simp only [Act.put, List.setIfInBounds_toArray, List.set_cons_zero, List.set_cons_succ]
        refine anyOf 2 [] (by kernel_rfl) (fun i hi => ?_)
        simp only [List.mem_cons, List.not_mem_nil, or_false] at hi
        subst hi
        refine wpOp_of rfl rfl (wp_makeZ (z := .slice none 0 0) (size := 1) (bytes := 24) Tryz.underlying59 (by kernel_rfl) (by omega) _ _ rfl n _ _ rfl rfl (by omega) w.heap.size s2 ?_)
        intro v3 hC g3
        rw [row59] at hC
        have s3 : w.heap.size ≤ v3.heap.size := Nat.le_trans s2 g3.size
        refine ⟨fun _ => trivial, ?_⟩
        simp only [Act.put, List.setIfInBounds_toArray, List.set_cons_zero, List.set_cons_succ]
        refine tk 6 28 (by kernel_rfl) trivial (hQ := fun _ _ _ h => hP _ _ _ _ _ h) (h := ?_)
        have fC := hC
        have fL := (World.ownsRow.kept hL g3 (.inr (fun e => nomatch e)))
        have fA := ((g3.block _ (blk_lt ((g2.block _ (blk_lt hA) (fun e => nomatch e)).trans hA)) (fun e => nomatch e)).trans ((g2.block _ (blk_lt hA) (fun e => nomatch e)).trans hA))
        have fB : Below w.heap.size w v3 := ((hBd.grown g1 s0 (fun k hk => nomatch hk)).grown g2 s1 (fun k hk => nomatch hk)).grown g3 s2 (fun k hk => nomatch hk)
        have c0 := blk_cell fA 0
        have c1 := blk_cell fA 1
        have c2 := blk_cell fA 2
        have c3 := blk_cell fA 3
        have c4 := blk_frozen fA 0
        have c5 := blk_frozen fA 1
        have c6 := blk_frozen fA 2
        have c7 := blk_frozen fA 3
        simp at c0 c1 c2 c3
        refine one 8 (h := ?_)
        intro K hK
        go_simp
        refine hK _ _ (fun h => absurd rfl h) (T_done ?_)
        have := hQ _ _ _ _ (F3.of fC fL fA fB s0)
        simp only [Act.put, List.setIfInBounds_toArray, List.set_cons_zero, List.set_cons_succ] at this
        exact this
  · have HB := HF.b
    have HWB := Lib.hid HF.w
    have HK := HF.k
    have HL := HF.l
    have HS := KS.start (ps := ps) HF.c
    clear HF
    simp only [Act.put, List.setIfInBounds_toArray, List.set_cons_zero, List.set_cons_succ]
    go_wp2_with fail
    go_loopg [8, 31] n (fun q u v w' => ∃ i : Nat, ∃ f : Nat → Value, i + q = n ∧ v = .int .i64 i ∧ Aside (KS w.heap.size w' ps n bc i u f) ∧ Aside (w'.ownsRow w.heap.size 39 3 (.slice (some ⟨bl, 0, none⟩) n n) n (madeCells zl.cells (n * 3)).toList) ∧ Aside (w'.heap[bw]? = some (.cells #[.slice (some ⟨bc, 0, none⟩) n n, .slice (some ⟨bl, 0, none⟩) n n, .int .i64 0, .int .i64 0] 61 (0, 0))) ∧ Aside (Below w.heap.size w w'))
    case atStart => exact ⟨0, _, by omega, rfl, ⟨HS⟩, ⟨HL⟩, ⟨HK⟩, ⟨HB⟩⟩
    case round =>
      clear HS HL HK HB
      obtain ⟨i, f, hi, rfl, HS, HL, HK, HB⟩ := hrel
      by_cases hlt : i < n
      · obtain ⟨a, r, rfl, ⟨rfl, h3⟩, hA⟩ := KP.out i _ (List.getElem?_eq_getElem (by have := N.out; omega))
        have hgi : ps.getD i 0 = ps[i]'(by have := N.out; omega) := by rw [List.getD_eq_getElem?_getD, List.getElem?_eq_getElem (by have := N.out; omega)]; rfl
        have hz := HP.out i _ (List.getElem?_eq_getElem (by have := N.out; omega))
        generalize ps[i]'(by have := N.out; omega) = z at *
        have p0 : (0 : Int) ≤ i := by omega
        have p1 : decide ((i : Int) < n) = true := by simpa using hlt
        have e0 := ((hA.below HB0).below HB.out).c0
        rw [Nat.mul_one] at e0
        have HG := Lib.hid hgi
        clear hA hgi
        by_cases hneg : z < 0
        · obtain rfl : z = -1 := by omega
          have HLs := Lib.hid HB.out.size
          have HSR := Lib.hid (HS.out.root.alloc (.cells #[.int .i64 i] 3))
          have hnr := kidsTo_len ps (-1) i
          go_wp2_with (at_builtin; refine app el27 rfl _ _ rfl w.heap.size rfl HSR.out.1 ⟨_, 0, none⟩ 1 1 [.int .i64 i] rfl rfl (World.news_of_block (blk_new _ _)) (fun u hu => by simp at hu; subst hu; rfl) (by omega) (by have := HLs.out; simp; omega) ?_; intro v' w5 h7 h8)
          have hS5 := (HS.out.alloc (.cells #[.int .i64 i] 3)).addRoot HG.out h7 h8
          have hL5 := (HL.out.alloc (.cells #[.int .i64 i] 3)).kept h8 (own_dT (HL.out.alloc (.cells #[.int .i64 i] 3)) HSR.out.1 (by decide))
          have hK5 := (h8.block bw (blk_lt (blk_alloc HK.out _)) (fun e => by
            rcases HSR.out.1.2 with ⟨h0, _⟩ | ⟨g, cap, cur, h0, _, hh, _⟩
            · rw [h0] at e; cases e
            · rw [h0] at e
              have e2 : some bw = some g := e
              obtain rfl := Option.some.inj e2
              have := (blk_alloc HK.out (.cells #[.int .i64 i] 3)).symm.trans hh
              simp only [Option.some.injEq, Obj.cells.injEq] at this
              exact absurd this.2.1 (by decide))).trans (blk_alloc HK.out _)
          have hB5 := (HB.out.alloc HB.out.size (.cells #[.int .i64 i] 3)).grown h8 (by have := HLs.out; simp; omega) (fun k hk => (HSR.out.1.lt k hk).1)
          go_roundg (gk - 1)
          case measure => omega
          case rel => exact ⟨i + 1, f, by omega, rfl, ⟨hS5⟩, ⟨hL5⟩, ⟨hK5⟩, ⟨hB5⟩⟩
        · obtain ⟨p, rfl⟩ := Int.eq_ofNat_of_zero_le (a := z) (by omega)
          have hpn : p < n := by omega
          have d1 : decide ((p : Int) < 0) = false := decide_eq_false (by omega)
          have d2 : decide ((p : Int) < n) = true := decide_eq_true (by omega)
          have d3 : (0 : Int) ≤ p := by omega
          have HLs := Lib.hid HB.out.size
          have hkp := HS.out.kid p hpn
          have hnr := kidsTo_len ps (p : Int) i
          obtain ⟨A', c', hfp⟩ := hkp.form
          obtain ⟨L, hLL⟩ : ∃ L, L = (kidsTo ps (p : Int) i).length := ⟨_, rfl⟩
          rw [← hLL] at hfp hnr
          have hown : wr.ownsRow w.heap.size 3 1 (.slice A' L c') L (vals (kidsTo ps (p : Int) i)) := by rw [← hfp, hLL]; exact hkp.1
          have q0 := blk_cell HK.out 0
          simp at q0
          have q1 := HS.out.row.cellAt p (by omega)
          rw [show ((List.range n).map f)[p]? = some (f p) by simp [hpn], hfp] at q1
          have HFP := Lib.hid hfp
          have HOW := Lib.hid hown
          have HQ := Lib.hid (And.intro q0 q1)
          have HNL := Lib.hid hLL
          clear hfp hown hkp hLL
          go_wp2_with fail
          refine T_start (fun w' : World => w'.cell? ⟨bw, 0, none⟩ = some (.slice (some ⟨bc, 0, none⟩) n n) ∧ w'.cell? ⟨bc, p, none⟩ = some (.slice A' L c')) 12 (n := 13) (by kernel_rfl) rfl rfl ?_
          have hS : (fun w' : World => w'.cell? ⟨bw, 0, none⟩ = some (.slice (some ⟨bc, 0, none⟩) n n) ∧ w'.cell? ⟨bc, p, none⟩ = some (.slice A' L c')) wr.drew := HQ.out
          clear q0 q1
          have hSd := HS.out.drew
          have hLd : wr.drew.ownsRow w.heap.size 39 3 (.slice (some ⟨bl, 0, none⟩) n n) n (madeCells zl.cells (n * 3)).toList := HL.out
          have hKd : wr.drew.heap[bw]? = some (.cells #[.slice (some ⟨bc, 0, none⟩) n n, .slice (some ⟨bl, 0, none⟩) n n, .int .i64 0, .int .i64 0] 61 (0, 0)) := HK.out
          have hBd : Below w.heap.size w wr.drew := HB.out.drew
          have hOd : wr.drew.ownsRow w.heap.size 3 1 (.slice A' L c') L (vals (kidsTo ps (p : Int) i)) := HOW.out
          have hsz : w.heap.size ≤ wr.drew.heap.size := HLs.out
          generalize wr.drew = wd at *
          simp only [Array.replicate_succ, Array.replicate_zero, List.push_toArray, List.nil_append, List.cons_append]
          refine tk 0 42 (by kernel_rfl) hS (h := ?_)
          refine tk 1 43 (by kernel_rfl) hS (h := ?_)
          refine tk 2 44 (by kernel_rfl) hS (h := ?_)
          refine tk 3 45 (by kernel_rfl) hS (h := ?_)
          refine tk 4 46 (by kernel_rfl) hS (h := ?_)
          refine tk 5 47 (by kernel_rfl) hS (h := ?_)
          refine tk 6 48 (by kernel_rfl) hS (h := ?_)
          refine tk 7 49 (by kernel_rfl) hS (h := ?_)
          refine tk 8 50 (by kernel_rfl) hS (h := ?_)
          refine one 9 (h := ?_)
          intro K hK
          go_simp
          have hSa := hSd.alloc (.cells #[.int .i64 i] 3)
          have hLa := hLd.alloc (.cells #[.int .i64 i] 3)
          have hKa := blk_alloc hKd (.cells #[.int .i64 i] 3)
          have hOa := hOd.alloc (.cells #[.int .i64 i] 3)
          have hBa := hBd.alloc hsz (.cells #[.int .i64 i] 3)
          have sF := fun (w' : World) (hk : w'.heap[bw]? = some (.cells #[.slice (some ⟨bc, 0, none⟩) n n, .slice (some ⟨bl, 0, none⟩) n n, .int .i64 0, .int .i64 0] 61 (0, 0))) (hr : w'.ownsRow w.heap.size 27 1 (.slice (some ⟨bc, 0, none⟩) n n) n ((List.range n).map f)) => (show (fun w' : World => w'.cell? ⟨bw, 0, none⟩ = some (.slice (some ⟨bc, 0, none⟩) n n) ∧ w'.cell? ⟨bc, p, none⟩ = some (.slice A' L c')) w' from ⟨by have := blk_cell hk 0; simpa using this, by rw [hr.cellAt p (by omega), ← HFP.out]; simp [hpn]⟩)
          have hS2 := sF _ hKa hSa.row
          refine hK _ _ (fun _ => hS2) ?_
          clear hK K
          refine one 10 (h := ?_)
          intro K hK
          refine wp_app el27 (.tmp 49) (.tmp 51) rfl w.heap.size (v := .slice A' L c') (by simp [Act.eval]) hOa ⟨wd.heap.size, 0, none⟩ 1 1 [.int .i64 i] (by simp [Act.eval]) rfl (World.news_of_block (blk_new _ _)) (fun u hu => by simp at hu; subst hu; rfl) (by omega) (by simp; omega) ?_
          intro v' w5 h7 h8
          have h8' : (wd.alloc (.cells #[.int .i64 i] 3)).grownBy w5 (f p).ownBlock := by rw [HFP.out]; exact h8
          have h7' := h7
          rw [HNL.out] at h7'
          have hS5 := hSa.addKid hpn HG.out h7' h8'
          have hr5 := hSa.row.kept h8 (own_dT hSa.row hOa (by decide))
          have hL5 := hLa.kept h8 (own_dT hLa hOa (by decide))
          have hK5 := (h8.block bw (blk_lt hKa) (fun e => by
            rcases hOa.2 with ⟨h0, _⟩ | ⟨g, cap, cur, h0, _, hh, _⟩
            · rw [h0] at e; cases e
            · rw [h0] at e
              have e2 : some bw = some g := e
              obtain rfl := Option.some.inj e2
              have := hKa.symm.trans hh
              simp only [Option.some.injEq, Obj.cells.injEq] at this
              exact absurd this.2.1 (by decide))).trans hKa
          have hB5 := hBa.grown h8 (by simp; omega) (fun k hk => (hOa.lt k hk).1)
          have hS3 := sF _ hK5 hr5
          obtain ⟨g', cap, rfl, hg', hgz⟩ := own_form h7
          refine hK _ _ (fun _ => hS3) ?_
          clear hK K
          simp only [Act.put, List.setIfInBounds_toArray, List.set_cons_zero, List.set_cons_succ]
          refine tk 11 53 (by kernel_rfl) hS3 (h := ?_)
          refine one 12 (h := ?_)
          intro K hK
          have u1 := hS3.2
          have u2 := hr5.frozenAt p
          go_simp
          refine hK _ _ (fun h => absurd rfl h) (T_done ?_)
          clear hK K
          have nbl : bl ≠ bc := fun e => by
            rcases own_dT hL5 hr5 (by decide) with h0 | h0
            · cases h0
            · exact h0 (by rw [e])
          have hbc := (hr5.lt bc rfl).1
          have hL6 := own_set hL5 (p := ⟨bc, p, none⟩) (fun e => nbl (Option.some.inj (show some bl = some bc from e))) (.slice (some ⟨g', 0, none⟩) (L + 1) cap)
          have hK6 := blk_far hK5 (p := ⟨bc, p, none⟩) (Ne.symm (own_neT hr5 hK5 (by decide))) (.slice (some ⟨g', 0, none⟩) (L + 1) cap)
          have hB6 := hB5.setCell (p := ⟨bc, p, none⟩) hbc (.slice (some ⟨g', 0, none⟩) (L + 1) cap)
          go_wp2_with fail
          go_roundg (gk - 1)
          case measure => omega
          case rel => exact ⟨i + 1, _, by omega, rfl, ⟨hS5⟩, ⟨hL6⟩, ⟨hK6⟩, ⟨hB6⟩⟩
      · obtain rfl : i = n := by omega
        have p1 : decide ((i : Int) < i) = false := decide_eq_false (by omega)
        have hR0 := HS.out.root
        obtain ⟨cur, hcur, hLC, hcs⟩ := labels0 HL.out
        have hkids := HS.out.kids N.out HK.out hcur
        rw [show kidsTo ps (-1) i = kidsOf ps (-1) by rw [N.out]; rfl] at hR0
        obtain ⟨A', c', hu⟩ := hR0.form
        have hcell := hR0.cell
        subst hu
        have hne1 := own_neT HL.out HK.out (by decide)
        obtain ⟨t, ht, ht1, ht2, hlab⟩ := TP.num_res HFO.out i (by have := N.out; omega)
        rw [← N.out] at ht ht1 ht2
        have hVS : VS 61 39 (.slice (some ⟨bc, 0, none⟩) i i) bw bl i i wr wr (blank i) := ⟨rfl, rfl, rfl, rfl, fun _ _ _ => rfl, HK.out, ⟨cur, hcur, hLC, hcs⟩, Ne.symm hne1⟩
        have hbl := (HL.out.lt bl rfl).1
        have HBB := Lib.hid (And.intro HB.out (And.intro hbl HWB.out))
        have hRl : (kidsOf ps (-1)).length ≤ i := by rw [N.out]; exact TP.kidsOf_length _ _
        have HV := Lib.hid (visit_calls (W0 := wr) (g := bw) (gl := bl) (cap := i) (cc := i) hkids (by omega) (fun j => by have := TP.kidsOf_length ps (j : Int); have h2 := N.out; show (kidsOf ps (j : Int)).length ≤ 1000000; omega) i)
        have HCELL : Hid (∀ j (hj : j < (kidsOf ps (-1)).length), ∃ g c, (Value.slice A' (kidsOf ps (-1)).length c') = .slice (some ⟨g, 0, none⟩) (kidsOf ps (-1)).length c ∧ g ≠ bw ∧ g ≠ bl ∧ wr.cell? ⟨g, j, none⟩ = some (.int .i64 ((kidsOf ps (-1))[j] : Int))) := Lib.hid (fun j hj => by
          obtain ⟨g, c, h1, h2, h3⟩ := hcell (by omega)
          exact ⟨g, c, h1, own_neT h2 HK.out (by decide), own_neT h2 hcur (by decide), h3 j hj⟩)
        have HT : Hid (visL ps i (kidsOf ps (-1)) 0 (blank i) = some t) := Lib.hid ht
        have HLAB := Lib.hid hlab
        have HVS := Lib.hid hVS
        have HRK : Hid (visL ps i (kidsOf ps (-1)) 0 (blank i) = some t) := HT
        obtain ⟨R, hRR⟩ : ∃ R, R = kidsOf ps (-1) := ⟨_, rfl⟩
        rw [← hRR] at HCELL HT hRl ⊢
        have HRR := Lib.hid hRR
        have HT12 := Lib.hid (And.intro ht1 ht2)
        clear hkids hcell ht hlab hcur hLC hcs hne1 hbl hR0 hVS hRR ht1 ht2 HS HL HK HB
        obtain ⟨wv, hwv⟩ : ∃ wv, wv = wr := ⟨_, rfl⟩
        rw [← hwv] at HBB HV HCELL HVS ⊢
        clear hwv
        go_wp2_with fail
        go_loopg [57] R.length (fun q v w' => ∃ (j : Nat) (sj : NS), j + q = R.length ∧ v = .int .i64 j ∧ Aside ((R.drop j).foldlM (fun s c => vis (kd ps) i c 0 s) sj = some t) ∧ Aside (sj.L.length = i) ∧ Aside (VS 61 39 (.slice (some ⟨bc, 0, none⟩) i i) bw bl i i wv w' sj))
        case atStart => exact ⟨0, blank i, by omega, rfl, ⟨by rw [List.drop_zero]; exact HT.out⟩, ⟨by simp [blank]⟩, ⟨HVS.out⟩⟩
        case round =>
          obtain ⟨j, sj, hj, rfl, HF, HSL, HVJ⟩ := hrel
          by_cases hlt2 : j < R.length
          · have z0 : (0 : Int) ≤ j := by omega
            have z1 : decide ((j : Int) < R.length) = true := decide_eq_true (by omega)
            obtain ⟨g, c, hg, g1, g2, hc⟩ := HCELL.out j hlt2
            injection hg with e1 e2 e3
            subst e1
            subst e3
            have f0 := (HVJ.out.far (a := ⟨g, j, none⟩) g1 g2 rfl).trans hc
            obtain ⟨m, hv, hr⟩ := TP.fold_part R j hlt2 HF.out
            have hup := TP.vis_up _ _ _ _ _ hv
            have hup' := TP.fold_up (TP.vis_up i) _ _ _ hr
            have cv := Lib.hid (HV.out R[j] 0 _ _ sj m _ rfl rfl hv HSL.out (by have := hup'.2.1; have := HT12.out.1; omega) (by have := hup'.2.2.1; have := HT12.out.2; omega) (by omega) HVJ.out)
            have HR2 := Lib.hid hr
            have HM := Lib.hid (hup.1.trans HSL.out)
            clear hc hv hr hup hup'
            go_wp2_with (go_at_call 22; refine cv.out.mono ?_; rintro rr w3 ⟨rfl, hv3⟩)
            go_roundg (gk - 1)
            case measure => omega
            case rel => exact ⟨j + 1, m, by omega, rfl, ⟨HR2.out⟩, ⟨HM.out⟩, ⟨hv3⟩⟩
          · have z1 : decide ((j : Int) < R.length) = false := decide_eq_false (by omega)
            obtain rfl : j = R.length := by omega
            have hf := HF.out
            rw [List.drop_length] at hf
            obtain rfl := Option.some.inj hf
            have c1 := HVJ.out.cell 1
            simp at c1
            clear hf HF
            go_wp2_with fail
            go_ret3
            obtain ⟨cur, hcur, hLC, _⟩ := HVJ.out.row
            refine ⟨⟨bl, sj, rfl, by rw [← HRR.out] at *; exact HRK.out, HLAB.out, fun k x hx => ?_⟩, HB0.trans (Below.mono ?_ HB0.size)⟩
            · obtain ⟨h1, h2, h3⟩ := hLC k x hx
              exact ⟨(blk_cell hcur _).trans h1, (blk_cell hcur _).trans h2, (blk_cell hcur _).trans h3⟩
            · have hb := HBB.out.1
              have h1 := HBB.out.2.1
              have h2 := HBB.out.2.2
              exact ⟨HVJ.out.os.trans hb.os, HVJ.out.tape.trans hb.tape, HVJ.out.output.trans hb.output, by rw [HVJ.out.size]; exact hb.size, fun k hk => (HVJ.out.keep k (by omega) (by omega)).trans (hb.block k hk)⟩
  
end Go.Proofs.YthjcmodhleoocaaGreatDoor.Z
/- ZBrk -/
namespace Go.Proofs.YthjcmodhleoocaaGreatDoor.Z
open Go Go.RowKit Go.Lib
set_option linter.unusedVariables false
set_option linter.unusedSimpArgs false
set_option maxRecDepth 100000 in
set_option maxHeartbeats 4000000 in
theorem dom7 (w : World) (a0 a1 a2 b0 b1 b2 : Int) : Calls Tryz.prog 7 #[.agg #[.int .i64 a0, .int .i64 a1, .int .i64 a2], .agg #[.int .i64 b0, .int .i64 b1, .int .i64 b2]] w fun r w' => r = .returned (.bool (decide (a0 < b0) && decide (b1 < a1))) ∧ Below w.heap.size w w' := by
  have HB : Below w.heap.size w ((w.alloc (.cells #[.int .i64 a0, .int .i64 a1, .int .i64 a2] 39)).alloc (.cells #[.int .i64 b0, .int .i64 b1, .int .i64 b2] 39)) := ((Below.refl _ w).alloc (Nat.le_refl _) _).alloc (by simp) _
  cases d1 : decide (a0 < b0) <;> cases d2 : decide (b1 < a1) <;>
  · go_enter Tryz.func7, Tryz.ntmps7
    go_wp2_with fail
    go_ret
    exact ⟨rfl, HB⟩
set_option maxRecDepth 100000 in
set_option maxHeartbeats 4000000 in
theorem pre8 (w : World) (a0 a1 a2 b0 b1 b2 : Int) : Calls Tryz.prog 8 #[.agg #[.int .i64 a0, .int .i64 a1, .int .i64 a2], .agg #[.int .i64 b0, .int .i64 b1, .int .i64 b2]] w fun r w' => r = .returned (.bool (decide (a0 < b0) && decide (a1 < b1))) ∧ Below w.heap.size w w' := by
  have HB : Below w.heap.size w ((w.alloc (.cells #[.int .i64 a0, .int .i64 a1, .int .i64 a2] 39)).alloc (.cells #[.int .i64 b0, .int .i64 b1, .int .i64 b2] 39)) := ((Below.refl _ w).alloc (Nat.le_refl _) _).alloc (by simp) _
  cases d1 : decide (a0 < b0) <;> cases d2 : decide (a1 < b1) <;>
  · go_enter Tryz.func8, Tryz.ntmps8
    go_wp2_with fail
    go_ret
    exact ⟨rfl, HB⟩
set_option maxRecDepth 100000 in
set_option maxHeartbeats 8000000 in
theorem isAnc36 (w : World) (v : Value) (N : List Nd) (hN : Nds w v N) (hr : ∀ j : Nat, j < N.length → -1 ≤ TP.rdi (psOf N) (j : Int) ∧ TP.rdi (psOf N) (j : Int) < j) (p k : Int) (hk1 : -1 ≤ k) (hk2 : k < N.length) (hc : ∃ m, TP.up (psOf N) m k = p) :
    Calls Tryz.prog 36 #[v, .int .i64 p, .int .i64 k] w fun r w' => r = .returned (.bool true) ∧ w' = w := by
  obtain ⟨A, c, rfl, hnc, hcm, hR⟩ := hN
  have hn := lim_of hnc hcm
  obtain ⟨n, hnl⟩ : ∃ n, n = N.length := ⟨_, rfl⟩
  rw [← hnl] at hn hk2 ⊢
  have KN := Lib.hid hR
  have NN := Lib.hid hnl
  have HR := Lib.hid hr
  have HC := Lib.hid hc
  clear hR hnc hcm hnl hr hc
  go_enter Tryz.func36, Tryz.ntmps36
  go_wp2_with fail
  go_loopg [2] (k + 1).toNat (fun q u w' => ∃ kk : Int, u = .int .i64 kk ∧ w' = w ∧ -1 ≤ kk ∧ kk < n ∧ kk + 1 = q ∧ Aside (∃ m, TP.up (psOf N) m kk = p))
  case atStart => exact ⟨k, rfl, rfl, hk1, hk2, by omega, ⟨HC.out⟩⟩
  case round =>
    obtain ⟨kk, rfl, rfl, h1, h2, h3, HCH⟩ := hrel
    by_cases hgo : 0 ≤ kk ∧ kk ≠ p
    · obtain ⟨h0, hne⟩ := hgo
      obtain ⟨j, rfl⟩ := Int.eq_ofNat_of_zero_le h0
      have hNj : N[j]? = some (N[j]'(by have := NN.out; omega)) := List.getElem?_eq_getElem (by have := NN.out; omega)
      obtain ⟨a2, r2, rfl, ⟨rfl, _, _, _, _⟩, hA2⟩ := KN.out j _ hNj
      generalize N[j]'(by have := NN.out; omega) = y at *
      have f3 := hA2.c3
      have z1 : decide ((0 : Int) ≤ (j : Int)) = true := decide_eq_true h0
      have z2 : ((j : Int) != p) = true := by simpa using hne
      have z3 : decide ((j : Int) < n) = true := decide_eq_true h2
      have hrj := HR.out j (by have := NN.out; omega)
      have hrd := rdi_ps hNj
      rw [hrd] at hrj
      have HX := Lib.hid (And.intro hrj (And.intro hrd hne))
      clear hA2 hrj hrd hNj hne
      go_wp2_with fail
      go_roundg (y.p + 1).toNat
      case measure => have := HX.out.1; omega
      case rel => exact ⟨y.p, rfl, rfl, HX.out.1.1, by have := HX.out.1; omega, by have := HX.out.1; omega, ⟨by
        obtain ⟨m, hm⟩ := HCH.out
        cases m with
        | zero => exact absurd hm HX.out.2.2
        | succ m => exact ⟨m, by rw [TP.up_succ, TP.stp_nn (by omega), HX.out.2.1] at hm; exact hm⟩⟩⟩
    · have hend : kk = p := by
        by_cases h0 : 0 ≤ kk
        · omega
        · obtain ⟨m, hm⟩ := HCH.out
          rw [TP.up_neg m (by omega)] at hm
          exact hm
      by_cases h0 : 0 ≤ kk
      · have z1 : decide ((0 : Int) ≤ kk) = true := decide_eq_true h0
        have z2 : (kk != p) = false := by simpa using hend
        have z3 : (kk == p) = true := by simpa using hend
        go_wp2_with fail
        go_ret
        exact ⟨rfl, rfl⟩
      · have z1 : decide ((0 : Int) ≤ kk) = false := decide_eq_false h0
        have z3 : (kk == p) = true := by simpa using hend
        go_wp2_with fail
        go_ret
        exact ⟨rfl, rfl⟩
/-- The ends of the last children so far. -/
def EI (N : List Nd) (xs : List Value) (i n : Nat) : Prop := xs.length = n + 1 ∧ ∀ k, k < n + 1 → ∃ z : Int, xs[k]? = some (.int .i64 z) ∧
  ∀ b, 0 ≤ b → (∀ s y, s < i → N[s]? = some y → y.p + 1 = k → (∀ s' y', s < s' → s' < i → N[s']? = some y' → y'.p ≠ y.p) → y.e ≤ b) → z ≤ b
theorem EI.start (N : List Nd) (n : Nat) : EI N (List.replicate (n + 1) (.int .i64 0)) 0 n := ⟨by simp, fun k hk => ⟨0, by simp [hk], fun b hb _ => hb⟩⟩
theorem EI.next {N : List Nd} {xs : List Value} {i n : Nat} {x : Nd} (h : EI N xs i n) (hx : N[i]? = some x) {k0 : Nat} (hk : x.p + 1 = k0) (hk0 : k0 < n + 1) : EI N (xs.set k0 (.int .i64 x.e)) (i + 1) n := by
  refine ⟨by simpa using h.1, fun k hkn => ?_⟩
  by_cases e : k0 = k
  · subst e
    refine ⟨x.e, by rw [List.getElem?_set_self (by rw [h.1]; exact hk0)], fun b hb hs => hs i x (by omega) hx hk (fun s' y' h1 h2 => by omega)⟩
  · obtain ⟨z, h1, h2⟩ := h.2 k hkn
    refine ⟨z, by rw [List.getElem?_set_ne e]; exact h1, fun b hb hs => h2 b hb fun s y hs1 hy hyp hm => hs s y (by omega) hy hyp fun s' y' q1 q2 q3 => ?_⟩
    by_cases e2 : s' = i
    · subst e2
      rw [hx] at q3; cases q3
      omega
    · exact hm s' y' q1 (by omega) q3
/-- The depths so far. -/
def DI (D : Nat → Int) (xs : List Value) (i n : Nat) : Prop := xs.length = n + 1 ∧ xs[0]? = some (.int .i64 0) ∧ (∀ j, j < i → xs[j + 1]? = some (.int .i64 (D j))) ∧ ∀ k, k < n + 1 → ∃ z : Int, xs[k]? = some (.int .i64 z)
theorem DI.start (D : Nat → Int) (n : Nat) : DI D (List.replicate (n + 1) (.int .i64 0)) 0 n := ⟨by simp, by simp, fun j hj => by omega, fun k hk => ⟨0, by simp [hk]⟩⟩
theorem DI.next {D : Nat → Int} {xs : List Value} {i n : Nat} (h : DI D xs i n) (hi : i < n) : DI D (xs.set (i + 1) (.int .i64 (D i))) (i + 1) n := by
  refine ⟨by simpa using h.1, by rw [List.getElem?_set_ne (by omega)]; exact h.2.1, fun j hj => ?_, fun k hk => ?_⟩
  · by_cases e : j = i
    · subst e; rw [List.getElem?_set_self (by rw [h.1]; omega)]
    · rw [List.getElem?_set_ne (by omega)]; exact h.2.2.1 j (by omega)
  · by_cases e : i + 1 = k
    · subst e; exact ⟨_, List.getElem?_set_self (by rw [h.1]; omega)⟩
    · rw [List.getElem?_set_ne e]; exact h.2.2.2 k hk
set_option maxRecDepth 100000 in
set_option maxHeartbeats 32000000 in
theorem bcheck23 (w : World) (v : Value) (N : List Nd) (Z : List Tx) (D : Nat → Int) (m : Nat) (hN : Nds w v N) (hok : NdOk N Z D N.length) (htx : TxOk Z m) (hlen : N.length ≤ 1000) :
    Calls Tryz.prog 23 #[v, .int .i64 m] w fun r w' => r = .returned (.int .i64 0) ∧ Below w.heap.size w w' := by
  have hN0 := hN
  obtain ⟨A, c, rfl, hnc, hcm, hR⟩ := hN
  have hrng := hok.rng (Nat.le_refl _)
  obtain ⟨n, hnl⟩ : ∃ n, n = N.length := ⟨_, rfl⟩
  rw [← hnl] at hlen hok hN0 ⊢
  have KN := Lib.hid hR
  have NN := Lib.hid hnl
  have HR := Lib.hid hrng
  have HOK := Lib.hid hok
  have HTX := Lib.hid htx
  clear hR hnc hcm hnl hrng hok htx
  go_enter Tryz.func23, Tryz.ntmps23
  go_wp2_with (first
    | (at_make; refine mk27 (w := w) rfl _ _ rfl (n + 1) .i64 .i64 rfl rfl (by omega) ?_; intro w1 HE G1; have HB1 := grown_below G1)
    | (at_make; refine mk27 rfl _ _ rfl (n + 1) .i64 .i64 rfl rfl (by omega) ?_; intro w2 HD G2; have HE2 := HE.kept G2 (.inr (fun e => nomatch e)); have HB2 := HB1.trans ((grown_below G2).mono HB1.size)))
  obtain ⟨ge, hge⟩ : ∃ g, g = w.heap.size := ⟨_, rfl⟩
  obtain ⟨gd, hgd⟩ : ∃ g, g = w1.heap.size := ⟨_, rfl⟩
  have hlt := (HE.lt _ rfl).2
  have HG := Lib.hid (show w.heap.size ≤ ge ∧ ge < gd from ⟨by omega, by rw [hge, hgd]; exact hlt⟩)
  rw [← hge] at HE2 ⊢
  rw [← hgd] at HD ⊢
  clear HE G1 G2 hge hgd hlt HB1
  have HE3 := own_lower HE2 (Nat.le_refl _)
  go_loopg [19] n (fun q v w' => ∃ i : Nat, ∃ es ds : List Value, i + q = n ∧ v = .int .i64 i ∧ Aside (w'.ownsRow ge 3 1 (.slice (some ⟨ge, 0, none⟩) (n + 1) (n + 1)) (n + 1) es) ∧ Aside (w'.ownsRow gd 3 1 (.slice (some ⟨gd, 0, none⟩) (n + 1) (n + 1)) (n + 1) ds) ∧ Aside (EI N es i n) ∧ Aside (DI D ds i n) ∧ Aside (Below w.heap.size w w'))
  case atStart => exact ⟨0, _, _, by omega, rfl, ⟨HE3⟩, ⟨HD⟩, ⟨EI.start N n⟩, ⟨DI.start D n⟩, ⟨HB2⟩⟩
  case round =>
    clear HE2 HD HB2 HE3
    obtain ⟨i, es, ds, hi, rfl, HE, HD, HEI, HDI, HB⟩ := hrel
    by_cases hlt : i < n
    · have hNi : N[i]? = some (N[i]'(by have := NN.out; omega)) := List.getElem?_eq_getElem (by have := NN.out; omega)
      obtain ⟨a1, r1, rfl, ⟨rfl, hs1, hs2, hs3, hs4⟩, hA⟩ := KN.out i _ hNi
      generalize N[i]'(by have := NN.out; omega) = y at *
      have hat := HOK.out i y hlt hNi
      have hr := HR.out i (by have := NN.out; omega)
      rw [rdi_ps hNi] at hr
      obtain ⟨u, hu, hhld⟩ := List.any_eq_true.1 hat.win
      have hux := HTX.out u hu
      simp only [hldB, Bool.and_eq_true, decide_eq_true_eq] at hhld
      have p0 : (0 : Int) ≤ i := by omega
      have p1 : decide ((i : Int) < n) = true := by simpa using hlt
      have hA1 := hA.below HB.out
      have e0 := hA1.c0
      have e1 := hA1.c1
      have e2 := hA1.c2
      have e3 := hA1.c3
      have HT := blk_new wr (.cells #[.string y.nm, .int .i64 y.b, .int .i64 y.e, .int .i64 y.p] 33)
      have HB2 := HB.out.alloc HB.out.size (.cells #[.string y.nm, .int .i64 y.b, .int .i64 y.e, .int .i64 y.p] 33)
      have HE2 := HE.out.alloc (.cells #[.string y.nm, .int .i64 y.b, .int .i64 y.e, .int .i64 y.p] 33)
      have HD2 := HD.out.alloc (.cells #[.string y.nm, .int .i64 y.b, .int .i64 y.e, .int .i64 y.p] 33)
      have hAn := hA.below HB2
      have d1 : decide (y.b < 0) = false := decide_eq_false (by omega)
      have d2 : decide (y.e ≤ y.b) = false := decide_eq_false (by omega)
      have d3 : decide ((m : Int) < y.e) = false := decide_eq_false (by omega)
      have hnm := hat.nm
      have CA := Lib.hid (isAnc36 (wr.alloc (.cells #[.string y.nm, .int .i64 y.b, .int .i64 y.e, .int .i64 y.p] 33)) _ N (Nds.below hN0 HB2) HR.out y.p ((i : Int) - 1) (by omega) (by have := NN.out; omega) hat.ch)
      have HAT := Lib.hid hat
      have HRI := Lib.hid hr
      have HNI := Lib.hid hNi
      have hb0 := Lib.hid (show (0 : Int) ≤ y.b by omega)
      clear hA hA1 hat hr hNi hu hux hhld
      go_wp2_with (first
        | (go_at_call 35; refine (validName _ _).mono ?_; rintro r w' ⟨rfl, rfl⟩; rw [hnm])
        | (go_at_call 36; refine CA.out.mono ?_; rintro r w' ⟨rfl, rfl⟩))
      obtain ⟨tb, htb⟩ : ∃ tb, tb = wr.heap.size := ⟨_, rfl⟩
      have hte : ge ≠ tb := by have := (HE.out.lt ge rfl).2; omega
      have htd : gd ≠ tb := by have := (HD.out.lt gd rfl).2; omega
      rw [← htb]
      rw [← htb] at HT
      clear e0 e1 e2 e3 htb CA HE HD HB d1 d2 d3 hnm
      generalize wr.alloc (.cells #[.string y.nm, .int .i64 y.b, .int .i64 y.e, .int .i64 y.p] 33) = w2 at *
      have x1 := blk_cell HT 1
      have x2 := blk_cell HT 2
      have x3 := blk_cell HT 3
      simp at x1 x2 x3
      have hr1 := HRI.out.1
      have hr2 := HRI.out.2
      obtain ⟨k0, hk0⟩ : ∃ k0 : Nat, (k0 : Int) = y.p + 1 := ⟨(y.p + 1).toNat, by omega⟩
      have ht : (y.p + 1).toNat = k0 := by omega
      have w0' : (0 : Int) ≤ y.p + 1 := by omega
      have w1' : decide (y.p + 1 < (n : Int) + 1) = true := decide_eq_true (by omega)
      obtain ⟨z, hz, hzb⟩ := HEI.out.2 k0 (by omega)
      have hzy := hzb y.b hb0.out (fun s y2 h1 h2 h3 h4 => HAT.out.sib s y2 h1 h2 (by omega) (fun s' y' q1 q2 q3 => by have := h4 s' y' q1 q2 q3; omega))
      have d7 : decide (y.b < z) = false := decide_eq_false (by omega)
      have q0 := (HE2.cellAt k0 (by omega)).trans hz
      obtain ⟨v0, hv0, hwr⟩ : ∃ v0 : Int, ds[k0]? = some (.int .i64 v0) ∧ v0 + 1 = D i := by
        have hd := HAT.out.dep
        by_cases h0 : 0 ≤ y.p
        · rw [if_pos h0] at hd
          have := HDI.out.2.2.1 y.p.toNat (by omega)
          rw [show y.p.toNat + 1 = k0 by omega] at this
          exact ⟨_, this, hd.symm⟩
        · rw [if_neg h0] at hd
          have := HDI.out.2.1
          rw [show (0 : Nat) = k0 by omega] at this
          exact ⟨0, this, hd.symm⟩
      have hDl := HAT.out.lim
      have hDn0 := HAT.out.nn
      have hwr1 : wrap64 (v0 + 1) = D i := by rw [hwr]; unfold wrap64; omega
      have hwr2 : IntKind.i64.wrap (v0 + 1) = D i := by rw [hwr]; exact IntWalk.i64_in _ (by omega)
      have HWR := Lib.hid hwr
      clear hwr hzb hzy hDl hDn0
      by_cases hpos : 0 ≤ y.p
      · have z1 : decide ((0 : Int) ≤ y.p) = true := decide_eq_true hpos
        have z3 : decide (y.p < n) = true := decide_eq_true (by omega)
        have hNp : N[y.p.toNat]? = some (N[y.p.toNat]'(by have := NN.out; omega)) := List.getElem?_eq_getElem (by have := NN.out; omega)
        obtain ⟨a2, r2, ha2, ⟨rfl, _, _, _, _⟩, hA2⟩ := KN.out y.p.toNat _ hNp
        cases ha2
        generalize N[y.p.toNat]'(by have := NN.out; omega) = yp at *
        have hA3 := hA2.below HB2
        have f1 := hA3.c1
        have f2 := hA3.c2
        have hnest := HAT.out.nest yp hpos hNp
        have d5 : decide (y.b < yp.b) = false := decide_eq_false (by omega)
        have d6 : decide (yp.e < y.e) = false := decide_eq_false (by omega)
        clear hA2 hA3 hNp hnest
        go_quiet (fail)
        revert nq
        intro nqa
        go_wp2_with fail
        go_quiet (fail)
        obtain ⟨wF, hwF⟩ : ∃ wF, wF = (w2.drewN nqa).drewN nq := ⟨_, rfl⟩
        rw [← hwF]
        have HEF : wF.ownsRow ge 3 1 (.slice (some ⟨ge, 0, none⟩) (n + 1) (n + 1)) (n + 1) es := by rw [hwF]; exact HE2
        have HDF : wF.ownsRow gd 3 1 (.slice (some ⟨gd, 0, none⟩) (n + 1) (n + 1)) (n + 1) ds := by rw [hwF]; exact HD2
        have HTF : wF.heap[tb]? = some (.cells #[.string y.nm, .int .i64 y.b, .int .i64 y.e, .int .i64 y.p] 33 (0, 0)) := by rw [hwF]; exact HT
        have HBF : Below w.heap.size w wF := by rw [hwF]; exact bdrewN (bdrewN HB2 _) _
        clear hwF x1 x2 x3 q0 f1 f2
        have hgne : (Value.slice (some ⟨gd, 0, none⟩) (n + 1) (n + 1)).ownBlock ≠ some (⟨ge, k0, none⟩ : Addr).block := fun e => by have h2 : some gd = some ge := e; have := Option.some.inj h2; have := HG.out; omega
        have hgne2 : (Value.slice (some ⟨ge, 0, none⟩) (n + 1) (n + 1)).ownBlock ≠ some (⟨gd, i + 1, none⟩ : Addr).block := fun e => by have h2 : some ge = some gd := e; have := Option.some.inj h2; have := HG.out; omega
        have HEG := (HEF.stored k0 (.int .i64 y.e)).1
        have HDG := own_set HDF hgne (.int .i64 y.e)
        have HTG := blk_far HTF (p := ⟨ge, k0, none⟩) (Ne.symm hte) (.int .i64 y.e)
        have HBG := HBF.setCell (p := ⟨ge, k0, none⟩) HG.out.1 (.int .i64 y.e)
        have HDH := (HDG.stored (i + 1) (.int .i64 (D i))).1
        have HEH := own_set HEG hgne2 (.int .i64 (D i))
        have HBH := HBG.setCell (p := ⟨gd, i + 1, none⟩) (by have := HG.out; show w.heap.size ≤ gd; omega) (.int .i64 (D i))
        have hEn := HEI.out.next HNI.out (show y.p + 1 = k0 by omega) (by omega)
        have hDn := HDI.out.next hlt
        have q0 := (HEF.cellAt k0 (by omega)).trans hz
        have q1 := HEF.frozenAt k0
        have t2 := blk_cell HTF 2
        have t3 := blk_cell HTF 3
        have u2 := blk_cell HTG 2
        have u3 := blk_cell HTG 3
        simp at t2 t3 u2 u3
        have q2 := (HDG.cellAt k0 (by omega)).trans hv0
        obtain ⟨zo, hzo⟩ := HDI.out.2.2.2 (i + 1) (by omega)
        have q3 := (HDG.cellAt (i + 1) (by omega)).trans hzo
        have q4 := HDG.frozenAt (i + 1)
        have q5 := HDH.cellAt (i + 1) (by omega)
        rw [hDn.2.2.1 i (by omega)] at q5
        have RN := Lib.hid (And.intro HEH (And.intro HDH (And.intro hEn (And.intro hDn HBH))))
        clear HEF HDF HTF HBF HEG HDG HTG HBG HDH HEH HBH hEn hDn hgne hgne2 hz hv0 hzo
        have d9 : decide ((40 : Int) < D i) = false := decide_eq_false (by have := HAT.out.lim; omega)
        have j0 : (0 : Int) ≤ (i : Int) + 1 := by omega
        have j1 : decide ((i : Int) + 1 < (n : Int) + 1) = true := decide_eq_true (by omega)
        go_wp2_with fail
        go_roundg (gk - 1)
        case measure => omega
        case rel => exact ⟨i + 1, _, _, by omega, rfl, ⟨RN.out.1⟩, ⟨RN.out.2.1⟩, ⟨RN.out.2.2.1⟩, ⟨RN.out.2.2.2.1⟩, ⟨RN.out.2.2.2.2⟩⟩
      · have z1 : decide ((0 : Int) ≤ y.p) = false := decide_eq_false hpos
        go_quiet (fail)
        revert nq
        intro nqa
        go_wp2_with fail
        go_quiet (fail)
        obtain ⟨wF, hwF⟩ : ∃ wF, wF = (w2.drewN nqa).drewN nq := ⟨_, rfl⟩
        rw [← hwF]
        have HEF : wF.ownsRow ge 3 1 (.slice (some ⟨ge, 0, none⟩) (n + 1) (n + 1)) (n + 1) es := by rw [hwF]; exact HE2
        have HDF : wF.ownsRow gd 3 1 (.slice (some ⟨gd, 0, none⟩) (n + 1) (n + 1)) (n + 1) ds := by rw [hwF]; exact HD2
        have HTF : wF.heap[tb]? = some (.cells #[.string y.nm, .int .i64 y.b, .int .i64 y.e, .int .i64 y.p] 33 (0, 0)) := by rw [hwF]; exact HT
        have HBF : Below w.heap.size w wF := by rw [hwF]; exact bdrewN (bdrewN HB2 _) _
        clear hwF x1 x2 x3 q0
        have hgne : (Value.slice (some ⟨gd, 0, none⟩) (n + 1) (n + 1)).ownBlock ≠ some (⟨ge, k0, none⟩ : Addr).block := fun e => by have h2 : some gd = some ge := e; have := Option.some.inj h2; have := HG.out; omega
        have hgne2 : (Value.slice (some ⟨ge, 0, none⟩) (n + 1) (n + 1)).ownBlock ≠ some (⟨gd, i + 1, none⟩ : Addr).block := fun e => by have h2 : some ge = some gd := e; have := Option.some.inj h2; have := HG.out; omega
        have HEG := (HEF.stored k0 (.int .i64 y.e)).1
        have HDG := own_set HDF hgne (.int .i64 y.e)
        have HTG := blk_far HTF (p := ⟨ge, k0, none⟩) (Ne.symm hte) (.int .i64 y.e)
        have HBG := HBF.setCell (p := ⟨ge, k0, none⟩) HG.out.1 (.int .i64 y.e)
        have HDH := (HDG.stored (i + 1) (.int .i64 (D i))).1
        have HEH := own_set HEG hgne2 (.int .i64 (D i))
        have HBH := HBG.setCell (p := ⟨gd, i + 1, none⟩) (by have := HG.out; show w.heap.size ≤ gd; omega) (.int .i64 (D i))
        have hEn := HEI.out.next HNI.out (show y.p + 1 = k0 by omega) (by omega)
        have hDn := HDI.out.next hlt
        have q0 := (HEF.cellAt k0 (by omega)).trans hz
        have q1 := HEF.frozenAt k0
        have t2 := blk_cell HTF 2
        have t3 := blk_cell HTF 3
        have u2 := blk_cell HTG 2
        have u3 := blk_cell HTG 3
        simp at t2 t3 u2 u3
        have q2 := (HDG.cellAt k0 (by omega)).trans hv0
        obtain ⟨zo, hzo⟩ := HDI.out.2.2.2 (i + 1) (by omega)
        have q3 := (HDG.cellAt (i + 1) (by omega)).trans hzo
        have q4 := HDG.frozenAt (i + 1)
        have q5 := HDH.cellAt (i + 1) (by omega)
        rw [hDn.2.2.1 i (by omega)] at q5
        have RN := Lib.hid (And.intro HEH (And.intro HDH (And.intro hEn (And.intro hDn HBH))))
        clear HEF HDF HTF HBF HEG HDG HTG HBG HDH HEH HBH hEn hDn hgne hgne2 hz hv0 hzo
        have d9 : decide ((40 : Int) < D i) = false := decide_eq_false (by have := HAT.out.lim; omega)
        have j0 : (0 : Int) ≤ (i : Int) + 1 := by omega
        have j1 : decide ((i : Int) + 1 < (n : Int) + 1) = true := decide_eq_true (by omega)
        go_wp2_with fail
        go_roundg (gk - 1)
        case measure => omega
        case rel => exact ⟨i + 1, _, _, by omega, rfl, ⟨RN.out.1⟩, ⟨RN.out.2.1⟩, ⟨RN.out.2.2.1⟩, ⟨RN.out.2.2.2.1⟩, ⟨RN.out.2.2.2.2⟩⟩
    · have p1 : decide ((i : Int) < n) = false := by simpa using hlt
      go_wp2_with fail
      go_ret
      exact ⟨rfl, HB.out⟩
end Go.Proofs.YthjcmodhleoocaaGreatDoor.Z
