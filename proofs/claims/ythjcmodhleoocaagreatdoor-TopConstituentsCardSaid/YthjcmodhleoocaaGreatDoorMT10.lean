/- For every corpus that comes in, TopConstituents returns true and leaves the corpus as it was; the listed variables are tied to the program's text. (Part 10.) -/
import Derived.Test.YthjcmodhleoocaaGreatDoorMT9
import Derived.Test.YthjcmodhleoocaaGreatDoorMT2
import Derived.Laws.EntriesVeiled
import Derived.Test.YthjcmodhleoocaaGreatDoorMT4
set_option linter.unusedVariables false
set_option linter.unusedSimpArgs false
set_option linter.unusedSectionVars false
/- ZBeginText -/
namespace Go.Proofs.YthjcmodhleoocaaGreatDoor.Z
open Go Go.RowKit Go.Lib
set_option linter.unusedVariables false
set_option linter.unusedSimpArgs false
theorem findNone (a b d e f g : Value) (s : ByteArray) (w : World) : Calls Tryz.prog 71 #[.agg #[a, b, .slice none 0 0, d, e, f, g], .string s] w fun r w' => r = .returned (.int .i64 (-1)) ∧ Below w.heap.size w w' := by
  go_enter Tryz.func71, Tryz.ntmps71
  go_wp2
  go_loopg [10] 0 (fun q v w' => v = .int .i64 0 ∧ w' = w.alloc (.cells #[a, b, .slice none 0 0, d, e, f, g] 30))
  case atStart => exact ⟨rfl, rfl⟩
  case round =>
    obtain ⟨rfl, rfl⟩ := hrel
    go_wp2
    go_ret
    exact ⟨rfl, (Below.refl _ _).alloc (Nat.le_refl _) _⟩
theorem el24 : El 24 85 4 56 := .mk' (z := .agg #[.string ⟨#[]⟩, .int .i64 0, .int .i64 0, .slice none 0 0]) Tryz.underlying24 (by kernel_rfl) rfl (by omega) (by omega)
set_option maxRecDepth 100000 in
set_option maxHeartbeats 8000000 in
theorem beginText (w : World) (x gk ck base : Nat) (av rv ov : Value) (c : Bool) (nm id : ByteArray) (hid : nmB id = true)
    (hx : w.heap[x]? = some (.cells #[av, .slice none 0 0, .slice none 0 0, rv, .slice none 0 0, .slice none 0 0, .slice none 0 0, ov, .bool false] 93 (0, 0)))
    (hk : w.ownsRow base 105 2 (.slice (some ⟨gk, 0, none⟩) 1 ck) 1 [.string ⟨#[105, 100]⟩, .string id]) :
    Calls Tryz.prog 66 #[.pointer (some ⟨x, 0, none⟩), .agg #[.bool c, .string nm, .slice (some ⟨gk, 0, none⟩) 1 ck]] w fun r w' => r = .returned (.int .i64 0) ∧ ∃ xv, w'.heap[x]? = some (.cells #[av, .slice none 0 0, xv, rv, .slice none 0 0, .slice none 0 0, .slice none 0 0, ov, .bool true] 93 (0, 0)) ∧
      w'.ownsRow w.heap.size 85 4 xv 1 [.string id, .int .i64 0, .int .i64 (-1), .slice none 0 0] ∧ Ch (fun k => k = x) w w' := by
  have hxl := blk_lt hx
  have hgk : gk < w.heap.size := (hk.lt gk rfl).2
  have hb1 : Below w.heap.size w (w.alloc (.cells #[.bool c, .string nm, .slice (some ⟨gk, 0, none⟩) 1 ck] 112)) := (Below.refl _ w).alloc (Nat.le_refl _) _
  have hx1 := blk_alloc hx (.cells #[.bool c, .string nm, .slice (some ⟨gk, 0, none⟩) 1 ck] 112)
  have ht1 := blk_new w (.cells #[.bool c, .string nm, .slice (some ⟨gk, 0, none⟩) 1 ck] 112)
  have q1 := blk_cell hx 1
  have q2 := blk_cell hx 2
  have q8 := blk_cell hx 8
  have k0 := hk.cellAt 0 (by omega)
  have k1 := hk.cellAt 1 (by omega)
  simp at q1 q2 q8 k0 k1
  go_enter Tryz.func66, Tryz.ntmps66
  go_wp2
  have hb2 : Below w.heap.size w ((w.alloc (.cells #[.bool c, .string nm, .slice (some ⟨gk, 0, none⟩) 1 ck] 112)).alloc (.cells #[.string ⟨#[]⟩, .int .i64 0, .int .i64 (-1), .slice none 0 0] 85)) := hb1.alloc (by simp) _
  have hr2 : ((w.alloc (.cells #[.bool c, .string nm, .slice (some ⟨gk, 0, none⟩) 1 ck] 112)).alloc (.cells #[.string ⟨#[]⟩, .int .i64 0, .int .i64 (-1), .slice none 0 0] 85)).heap[w.heap.size + 1]? = some (.cells #[.string ⟨#[]⟩, .int .i64 0, .int .i64 (-1), .slice none 0 0] 85 (0, 0)) := by
    simpa using blk_new (w.alloc (.cells #[.bool c, .string nm, .slice (some ⟨gk, 0, none⟩) 1 ck] 112)) (.cells #[.string ⟨#[]⟩, .int .i64 0, .int .i64 (-1), .slice none 0 0] 85)
  obtain ⟨tb, htb⟩ : ∃ tb, tb = w.heap.size + 1 := ⟨_, rfl⟩
  have HT := Lib.hid htb
  rw [← htb]
  rw [← htb] at hr2
  clear htb q1 q2 q8 hx1 ht1 hb1
  generalize ((w.alloc (.cells #[.bool c, .string nm, .slice (some ⟨gk, 0, none⟩) 1 ck] 112)).alloc (.cells #[.string ⟨#[]⟩, .int .i64 0, .int .i64 (-1), .slice none 0 0] 85)) = w2 at *
  go_loopg [6, 32] 1 (fun q v6 v32 w' => (q = 1 ∧ v6 = .bool false ∧ v32 = .int .i64 0 ∧ w' = w2) ∨
    (q = 0 ∧ v6 = .bool true ∧ v32 = .int .i64 1 ∧ Aside (Below w.heap.size w w' ∧ w'.heap[tb]? = some (.cells #[.string id, .int .i64 0, .int .i64 (-1), .slice none 0 0] 85 (0, 0)))))
  case atStart => exact .inl ⟨rfl, rfl, rfl, rfl⟩
  case round =>
    rcases hrel with ⟨rfl, rfl, rfl, rfl⟩ | ⟨rfl, rfl, rfl, HA⟩
    · have k2 := (World.cell?_of_block (a := ⟨gk, 0, none⟩) (hb2.block gk hgk)).trans k0
      have k3 := (World.cell?_of_block (a := ⟨gk, 1, none⟩) (hb2.block gk hgk)).trans k1
      have t0 := blk_cell hr2 0
      have t1 := blk_frozen hr2 0
      simp at t0
      have m0 : ∀ o, (wr.alloc o).cell? ⟨tb, 0, none⟩ = some (.string ⟨#[]⟩) := fun o => blk_cell (blk_alloc hr2 o) 0
      have m1 : ∀ o, (wr.alloc o).frozen? ⟨tb, 0, none⟩ = false := fun o => blk_frozen (blk_alloc hr2 o) 0
      go_wp2
      go_roundg 0
      case measure => omega
      case rel => exact .inr ⟨rfl, rfl, rfl, ⟨(hb2.alloc hb2.size (.cells #[.string ⟨#[105, 100]⟩, .string id] 105)).setCell (p := ⟨tb, 0, none⟩) (by have := HT.out; simp; omega) _, blk_put (blk_alloc hr2 _) 0 _ rfl⟩⟩
    · obtain ⟨hb3, hr3⟩ := HA.out
      clear HA hb2 hr2 k0 k1
      have hx3 := (hb3.block x hxl).trans hx
      have t0 := blk_cell hr3 0
      simp at t0
      go_wp2_with (go_at_call 35; refine (validName id _).mono ?_; rintro r w' ⟨rfl, rfl⟩; rw [hid])
      have fx : w'.cell? ⟨x, 0, none⟩ = some av ∧ w'.cell? ⟨x, 1, none⟩ = some (.slice none 0 0) ∧ w'.cell? ⟨x, 2, none⟩ = some (.slice none 0 0) ∧ w'.cell? ⟨x, 3, none⟩ = some rv ∧ w'.cell? ⟨x, 4, none⟩ = some (.slice none 0 0) ∧ w'.cell? ⟨x, 5, none⟩ = some (.slice none 0 0) ∧ w'.cell? ⟨x, 6, none⟩ = some (.slice none 0 0) ∧ w'.cell? ⟨tb, 0, none⟩ = some (.string id) := ⟨blk_cell hx3 0, blk_cell hx3 1, blk_cell hx3 2, blk_cell hx3 3, blk_cell hx3 4, blk_cell hx3 5, blk_cell hx3 6, blk_cell hr3 0⟩
      have HA : Aside (Below w.heap.size w w' ∧ w'.heap[x]? = some (.cells #[av, .slice none 0 0, .slice none 0 0, rv, .slice none 0 0, .slice none 0 0, .slice none 0 0, ov, .bool false] 93 (0, 0)) ∧ w'.heap[tb]? = some (Go.Obj.cells #[.string id, .int .i64 0, .int .i64 (-1), .slice none 0 0] 85 (0, 0))) := ⟨hb3, hx3, hr3⟩
      go_region_held3 (fun w' => w'.cell? ⟨x, 0, none⟩ = some av ∧ w'.cell? ⟨x, 1, none⟩ = some (.slice none 0 0) ∧ w'.cell? ⟨x, 2, none⟩ = some (.slice none 0 0) ∧ w'.cell? ⟨x, 3, none⟩ = some rv ∧ w'.cell? ⟨x, 4, none⟩ = some (.slice none 0 0) ∧ w'.cell? ⟨x, 5, none⟩ = some (.slice none 0 0) ∧ w'.cell? ⟨x, 6, none⟩ = some (.slice none 0 0) ∧ w'.cell? ⟨tb, 0, none⟩ = some (.string id) ∧ Aside (Below w.heap.size w w' ∧ w'.heap[x]? = some (.cells #[av, .slice none 0 0, .slice none 0 0, rv, .slice none 0 0, .slice none 0 0, .slice none 0 0, ov, .bool false] 93 (0, 0)) ∧ w'.heap[tb]? = some (Go.Obj.cells #[.string id, .int .i64 0, .int .i64 (-1), .slice none 0 0] 85 (0, 0))))
        (first | exact ⟨fx.1, fx.2.1, fx.2.2.1, fx.2.2.2.1, fx.2.2.2.2.1, fx.2.2.2.2.2.1, fx.2.2.2.2.2.2.1, fx.2.2.2.2.2.2.2, ⟨HA.out.1.drew, HA.out.2⟩⟩ | (have hx5 := (hb4.block x (blk_lt hx3)).trans hx3; have hr5 := (hb4.block tb (blk_lt hr3)).trans hr3; exact ⟨blk_cell hx5 0, blk_cell hx5 1, blk_cell hx5 2, blk_cell hx5 3, blk_cell hx5 4, blk_cell hx5 5, blk_cell hx5 6, blk_cell hr5 0, ⟨hb3.drew.trans (hb4.mono hb3.size), hx5, hr5⟩⟩))
        (first | (go_at_call 71; refine (findNone _ _ _ _ _ _ id _).mono ?_; rintro r w4 ⟨rfl, hb4⟩))
      have hx4 := (hb4.block x (blk_lt hx3)).trans hx3
      have hr4 := (hb4.block tb (blk_lt hr3)).trans hr3
      have hb5 : Below w.heap.size w w4 := hb3.drew.trans (hb4.mono hb3.size)
      clear HA fx hb3 hx3 hr3 hb4 t0
      go_wp2_with fail
      refine T_start (fun w' : World => w'.cell? ⟨x, 2, none⟩ = some (.slice none 0 0) ∧ w'.cell? ⟨tb, 0, none⟩ = some (.string id) ∧ w'.cell? ⟨tb, 1, none⟩ = some (.int .i64 0) ∧ w'.cell? ⟨tb, 2, none⟩ = some (.int .i64 (-1)) ∧ w'.cell? ⟨tb, 3, none⟩ = some (.slice none 0 0)) 12 (n := 13) (by kernel_rfl) rfl rfl ?_
      have hS : (fun w' : World => w'.cell? ⟨x, 2, none⟩ = some (.slice none 0 0) ∧ w'.cell? ⟨tb, 0, none⟩ = some (.string id) ∧ w'.cell? ⟨tb, 1, none⟩ = some (.int .i64 0) ∧ w'.cell? ⟨tb, 2, none⟩ = some (.int .i64 (-1)) ∧ w'.cell? ⟨tb, 3, none⟩ = some (.slice none 0 0)) w4.drew := ⟨blk_cell hx4 2, blk_cell hr4 0, blk_cell hr4 1, blk_cell hr4 2, blk_cell hr4 3⟩
      simp only [Array.replicate_succ, Array.replicate_zero, List.push_toArray, List.nil_append, List.cons_append]
      refine tk 0 66 (by kernel_rfl) hS (h := ?_)
      refine tk 1 67 (by kernel_rfl) hS (h := ?_)
      refine tk 2 68 (by kernel_rfl) hS (h := ?_)
      refine tk 3 69 (by kernel_rfl) hS (h := ?_)
      refine tk 4 70 (by kernel_rfl) hS (h := ?_)
      refine tk 5 71 (by kernel_rfl) hS (h := ?_)
      refine tk 6 72 (by kernel_rfl) hS (h := ?_)
      refine one 7 (h := ?_)
      intro K hK
      go_simp
      have hx5 := blk_alloc hx4 (.cells #[.string id, .int .i64 0, .int .i64 (-1), .slice none 0 0] 85)
      have hr5 := blk_alloc hr4 (.cells #[.string id, .int .i64 0, .int .i64 (-1), .slice none 0 0] 85)
      refine hK _ _ (fun _ => ⟨blk_cell hx5 2, blk_cell hr5 0, blk_cell hr5 1, blk_cell hr5 2, blk_cell hr5 3⟩) ?_
      clear hK K
      refine one 8 (h := ?_)
      intro K hK
      refine wp_app el24 (.tmp 71) (.tmp 73) rfl w4.heap.size (v := .slice none 0 0) (by simp [Act.eval]) (World.ownsRow_nil _ _ _ _) ⟨w4.heap.size, 0, none⟩ 1 1 [.string id, .int .i64 0, .int .i64 (-1), .slice none 0 0] (by simp [Act.eval]) rfl (World.news_of_block (blk_new _ _)) (fun u hu => by simp at hu; rcases hu with rfl | rfl | rfl | rfl <;> rfl) (by omega) (by simp) ?_
      intro v' w12 h7 h8
      obtain ⟨g', cap, rfl, hg', hgz⟩ := own_form h7
      have hx12 := (h8.block x (by have := blk_lt hx5; simpa using this) (fun e => nomatch e)).trans hx5
      have hr12 := (h8.block tb (by have := blk_lt hr5; simpa using this) (fun e => nomatch e)).trans hr5
      have hS12 : (fun w' : World => w'.cell? ⟨x, 2, none⟩ = some (.slice none 0 0) ∧ w'.cell? ⟨tb, 0, none⟩ = some (.string id) ∧ w'.cell? ⟨tb, 1, none⟩ = some (.int .i64 0) ∧ w'.cell? ⟨tb, 2, none⟩ = some (.int .i64 (-1)) ∧ w'.cell? ⟨tb, 3, none⟩ = some (.slice none 0 0)) w12 := ⟨blk_cell hx12 2, blk_cell hr12 0, blk_cell hr12 1, blk_cell hr12 2, blk_cell hr12 3⟩
      refine hK _ _ (fun _ => hS12) ?_
      clear hK K
      simp only [Act.put, List.setIfInBounds_toArray, List.set_cons_zero, List.set_cons_succ]
      refine tk 9 75 (by kernel_rfl) hS12 (h := ?_)
      refine tk 10 76 (by kernel_rfl) hS12 (h := ?_)
      refine tk 11 77 (by kernel_rfl) hS12 (h := ?_)
      refine one 12 (h := ?_)
      intro K hK
      have u7 := blk_cell hx12 2
      have f7 := blk_frozen hx12 2
      simp at u7
      go_simp
      refine hK _ _ (fun h => absurd rfl h) (T_done ?_)
      clear hK K
      have hx6 := blk_put hx12 2 (.slice (some ⟨g', 0, none⟩) 1 cap) rfl
      have hC6 : Ch (fun k => k = x) w (w12.setCell ⟨x, 2, none⟩ (.slice (some ⟨g', 0, none⟩) 1 cap)) := (((Ch.of_below (fun k => k = x) hb5).alloc (.cells #[.string id, .int .i64 0, .int .i64 (-1), .slice none 0 0] 85)).drew.grown h8 (fun k hk => nomatch hk)).set (p := ⟨x, 2, none⟩) (.inl rfl) _
      have hw6 := own_set (own_lower h7 hb5.size) (own_ne h7 hx12 (by decide)) (p := ⟨x, 2, none⟩) (.slice (some ⟨g', 0, none⟩) 1 cap)
      generalize w12.setCell ⟨x, 2, none⟩ (.slice (some ⟨g', 0, none⟩) 1 cap) = w6 at *
      have u8 := blk_cell hx6 8
      have f8 := blk_frozen hx6 8
      simp at u8
      go_wp2
      go_ret
      exact ⟨rfl, _, blk_put hx6 8 (.bool true) rfl, own_set hw6 (own_ne hw6 hx6 (by decide)) _, hC6.set (p := ⟨x, 8, none⟩) (.inl rfl) _⟩
end Go.Proofs.YthjcmodhleoocaaGreatDoor.Z
/- ZLine -/
namespace Go.Proofs.YthjcmodhleoocaaGreatDoor.Z
open Go Go.RowKit Go.Lib
set_option linter.unusedVariables false
set_option linter.unusedSimpArgs false
theorem set_same {w : World} {T i t : Nat} {cs : Array Value} {f : Nat × Nat} {v : Value} (h : w.heap[T]? = some (.cells cs t f)) (hv : cs[i]? = some v) : w.setCell ⟨T, i, none⟩ v = w := by
  have hh : (w.setCell ⟨T, i, none⟩ v).heap = w.heap := by
    apply Array.ext'
    apply List.ext_getElem?
    intro k
    have e : (w.setCell ⟨T, i, none⟩ v).heap[k]? = w.heap[k]? := by
      by_cases hk : k = T
      · subst hk
        have hc : cs.setIfInBounds i v = cs := by
          apply Array.ext'
          rw [Array.toList_setIfInBounds]
          refine List.ext_getElem? fun j => ?_
          rw [List.getElem?_set]
          by_cases hj : i = j
          · subst hj
            have hv' : cs.toList[i]? = some v := by simpa using hv
            rw [if_pos rfl, if_pos (by rw [List.getElem?_eq_some_iff] at hv'; exact hv'.1), hv']
          · rw [if_neg hj]
        simp [World.setCell, Array.getElem?_modify, h, hc]
      · exact Below.heap_setCell w ⟨T, i, none⟩ v k hk
    simpa using e
  unfold World.setCell at hh ⊢
  simp only at hh
  rw [hh]
/-- A line that is no tag. -/
theorem lineToken (w : World) (x B n : Nat) (av tv xv rv ov : Value) (wd s : ByteArray) (ts : List Value) (hB : B ≤ w.heap.size) (hn : n ≤ 100) (hp : Lib.hasPrefix s.data.toList [60] = false)
    (hx : w.heap[x]? = some (.cells #[av, tv, xv, rv, .slice none 0 0, .slice none 0 0, .slice none 0 0, ov, .bool true] 93 (0, 0)))
    (ha : w.ownsRow B 73 2 av 1 [.string wd, .bool false]) (ht : w.ownsRow B 28 1 tv n ts) (K : Tok s) :
    Calls Tryz.prog 41 #[.pointer (some ⟨x, 0, none⟩), .string s] w fun r w' => r = .returned (.agg #[.int .i64 0, .int .i64 0]) ∧ ∃ tv' sv, w'.heap[x]? = some (.cells #[av, tv', xv, rv, .slice none 0 0, .slice none 0 0, .slice none 0 0, ov, .bool true] 93 (0, 0)) ∧
      w'.ownsRow B 28 1 tv' (n + 1) (ts ++ [sv]) ∧ w'.ownsRow w.heap.size 9 1 sv 1 [.string s] ∧ Ch (fun k => k = x ∨ tv.ownBlock = some k) w w' := by
  have hxl := blk_lt hx
  have HP := Lib.hid hp
  clear hp
  go_enter Tryz.func41, Tryz.ntmps41
  go_wp2_with fail
  refine (pfx s ⟨#[60]⟩ _).mono ?_
  rintro r w' ⟨rfl, rfl⟩
  rw [HP.out]
  go_wp2_with fail
  refine (token _ x B n av tv xv rv ov wd s ts (by simp; omega) hn (blk_alloc hx _) (ha.alloc _) (ht.alloc _) K).mono ?_
  rintro r w2 ⟨rfl, tv', sv, h1, h2, h3, h4⟩
  have hT : w2.heap[w.heap.size]? = some (.cells #[.int .i64 0, .int .i64 0] 97 (0, 0)) := (h4.rest _ (by simp) (fun e => by
    rcases e with e | e
    · omega
    · have := (ht.lt _ e).2; omega)).trans (blk_new w _)
  have c0 := blk_cell hT 0
  have c1 := blk_cell hT 1
  have c2 := blk_frozen hT 0
  have c3 := blk_frozen hT 1
  simp at c0 c1
  go_wp2
  rw [set_same (i := 0) (v := .int .i64 0) hT rfl, set_same (i := 1) (v := .int .i64 0) hT rfl]
  refine bodyPost_ret (v := .agg #[.int .i64 0, .int .i64 0]) (by simp [results, Tryz.results41, go_sem, c0, c1]) rfl ⟨rfl, tv', sv, h1, h2, own_lower h3 (by simp), ((Ch.refl _ w).alloc _).trans h4⟩
theorem branch {w : World} (w2 : World) (A : Option Addr) (m kc : Nat) (c : Bool) (nm : ByteArray) (hT : w2.heap[w.heap.size]? = some (.cells #[.int .i64 0, .int .i64 0] 97 (0, 0))) (hb2 : Below w.heap.size w w2) :
    ((w2.alloc (.cells #[.bool c, .string nm, .slice A m kc] 112)).alloc (.cells #[.func (.func 64) #[] #[], .func (.func 65) #[] #[], .func (.func 66) #[] #[], .func (.func 67) #[] #[]] 117)).heap[w2.heap.size]? = some (.cells #[.bool c, .string nm, .slice A m kc] 112 (0, 0)) ∧
    ((w2.alloc (.cells #[.bool c, .string nm, .slice A m kc] 112)).alloc (.cells #[.func (.func 64) #[] #[], .func (.func 65) #[] #[], .func (.func 66) #[] #[], .func (.func 67) #[] #[]] 117)).heap[w2.heap.size + 1]? = some (.cells #[.func (.func 64) #[] #[], .func (.func 65) #[] #[], .func (.func 66) #[] #[], .func (.func 67) #[] #[]] 117 (0, 0)) ∧
    ((w2.alloc (.cells #[.bool c, .string nm, .slice A m kc] 112)).alloc (.cells #[.func (.func 64) #[] #[], .func (.func 65) #[] #[], .func (.func 66) #[] #[], .func (.func 67) #[] #[]] 117)).heap[w.heap.size]? = some (.cells #[.int .i64 0, .int .i64 0] 97 (0, 0)) ∧
    Below w.heap.size w ((w2.alloc (.cells #[.bool c, .string nm, .slice A m kc] 112)).alloc (.cells #[.func (.func 64) #[] #[], .func (.func 65) #[] #[], .func (.func 66) #[] #[], .func (.func 67) #[] #[]] 117)) :=
  ⟨blk_alloc (blk_new w2 _) _, by simpa using blk_new (w2.alloc (.cells #[.bool c, .string nm, .slice A m kc] 112)) (.cells #[.func (.func 64) #[] #[], .func (.func 65) #[] #[], .func (.func 66) #[] #[], .func (.func 67) #[] #[]] 117), blk_alloc (blk_alloc hT _) _, (hb2.alloc hb2.size _).alloc (by have := hb2.size; simp; omega) _⟩
set_option maxRecDepth 100000 in
set_option maxHeartbeats 4000000 in
/-- A line that is a tag; f: which of the four is called. -/
theorem lineTag (w : World) (x f : Nat) (s nm : ByteArray) (c : Bool) (m : Nat) (ks : List Value) (R : World → Prop) (hx : x < w.heap.size) (hp : Lib.hasPrefix s.data.toList [60] = true)
    (hP : ∀ w b, Sc w b s 0 → Calls Tryz.prog 93 #[.pointer (some ⟨b, 0, none⟩)] w fun r w' => ∃ v, r = .returned v ∧ TagV w.heap.size w' v c nm m ks ∧ Mv b w w')
    (hc : ∀ w1 kv, Below w.heap.size w w1 → w1.ownsRow w.heap.size 105 2 kv m ks → (m = 0 → kv = .slice none 0 0) → Calls Tryz.prog f #[.pointer (some ⟨x, 0, none⟩), .agg #[.bool c, .string nm, kv]] w1 fun r w' => r = .returned (.int .i64 0) ∧ R w' ∧ ∀ k, k < w1.heap.size → w.heap.size ≤ k → w'.heap[k]? = w1.heap[k]?)
    (b : Bool) (hb : (nm.toList == [116, 101, 120, 116]) = b) (hf : f = 64 + (if c = true then 1 else 0) + (if b = true then 2 else 0)) :
    Calls Tryz.prog 41 #[.pointer (some ⟨x, 0, none⟩), .string s] w fun r w' => r = .returned (.agg #[.int .i64 0, .int .i64 0]) ∧ R w' := by
  have HP := Lib.hid hp
  clear hp
  go_enter Tryz.func41, Tryz.ntmps41
  go_wp2_with fail
  refine (pfx s ⟨#[60]⟩ _).mono ?_
  rintro r w' ⟨rfl, rfl⟩
  rw [HP.out]
  go_wp2_with fail
  refine (parseTag s _ c nm m ks hP).mono ?_
  rintro r w2 ⟨v, rfl, ⟨kv, rfl, ho, hz0⟩, hb⟩
  obtain ⟨A, kc, rfl⟩ := own_slice ho
  have HZ0 := Lib.hid hz0
  clear hz0
  have hT : w2.heap[w.heap.size]? = some (.cells #[.int .i64 0, .int .i64 0] 97 (0, 0)) := (hb.block _ (by simp)).trans (blk_new w _)
  have hb2 : Below w.heap.size w w2 := ((Below.refl _ w).alloc (Nat.le_refl _) _).trans (hb.mono (by simp))
  have ho2 := own_lower (base' := w.heap.size) ho (by simp)
  cases c <;> cases b <;> (simp at hf; subst hf)
  · have h3 := branch w2 A m kc false nm hT hb2
    go_wp2_with fail
    obtain ⟨tb, htb⟩ : ∃ tb, tb = w2.heap.size := ⟨_, rfl⟩
    obtain ⟨kb, hkb⟩ : ∃ kb, kb = w2.heap.size + 1 := ⟨_, rfl⟩
    obtain ⟨h4, h5, h6, h7⟩ := h3
    have ho3 := (ho2.alloc (.cells #[.bool false, .string nm, .slice A m kc] 112)).alloc (.cells #[.func (.func 64) #[] #[], .func (.func 65) #[] #[], .func (.func 66) #[] #[], .func (.func 67) #[] #[]] 117)
    rw [← hkb, ← htb]
    rw [← htb] at h4
    rw [← hkb] at h5
    have htl := blk_lt h4
    have hkl := blk_lt h5
    have hge : w.heap.size ≤ tb ∧ w.heap.size ≤ kb := by have := hb2.size; omega
    generalize ((w2.alloc (.cells #[.bool false, .string nm, .slice A m kc] 112)).alloc (.cells #[.func (.func 64) #[] #[], .func (.func 65) #[] #[], .func (.func 66) #[] #[], .func (.func 67) #[] #[]] 117)) = w3 at *
    clear htb hkb
    refine T_start (fun w' : World => w'.cell? ⟨kb, 0, none⟩ = some (.func (.func 64) #[] #[]) ∧ w'.cell? ⟨kb, 1, none⟩ = some (.func (.func 65) #[] #[]) ∧ w'.cell? ⟨kb, 2, none⟩ = some (.func (.func 66) #[] #[]) ∧ w'.cell? ⟨kb, 3, none⟩ = some (.func (.func 67) #[] #[]) ∧ w'.cell? ⟨tb, 0, none⟩ = some (.bool false) ∧ w'.cell? ⟨tb, 1, none⟩ = some (.string nm) ∧ w'.cell? ⟨tb, 2, none⟩ = some (.slice A m kc)) 7 (n := 8) (by kernel_rfl) rfl rfl ?_
    have hS : (fun w' : World => w'.cell? ⟨kb, 0, none⟩ = some (.func (.func 64) #[] #[]) ∧ w'.cell? ⟨kb, 1, none⟩ = some (.func (.func 65) #[] #[]) ∧ w'.cell? ⟨kb, 2, none⟩ = some (.func (.func 66) #[] #[]) ∧ w'.cell? ⟨kb, 3, none⟩ = some (.func (.func 67) #[] #[]) ∧ w'.cell? ⟨tb, 0, none⟩ = some (.bool false) ∧ w'.cell? ⟨tb, 1, none⟩ = some (.string nm) ∧ w'.cell? ⟨tb, 2, none⟩ = some (.slice A m kc)) w3.drew := ⟨blk_cell h5 0, blk_cell h5 1, blk_cell h5 2, blk_cell h5 3, blk_cell h4 0, blk_cell h4 1, blk_cell h4 2⟩
    simp only [Array.replicate_succ, Array.replicate_zero, List.push_toArray, List.nil_append, List.cons_append]
    refine tk 0 37 (by kernel_rfl) hS (h := ?_)
    refine tk 1 38 (by kernel_rfl) hS (h := ?_)
    refine tk 2 39 (by kernel_rfl) hS (h := ?_)
    refine tk 3 40 (by kernel_rfl) hS (h := ?_)
    refine tk 4 41 (by kernel_rfl) hS (h := ?_)
    refine one 5 (h := ?_)
    intro K hK
    go_simp
    refine (hc w3.drew _ h7.drew ho3 HZ0.out).mono ?_
    rintro r w4 ⟨rfl, hR, hkeep⟩
    have h8 := (hkeep tb htl hge.1).trans h4
    have h9 := (hkeep kb hkl hge.2).trans h5
    have hT4 := (hkeep w.heap.size (blk_lt h6) (Nat.le_refl _)).trans h6
    have hS4 : (fun w' : World => w'.cell? ⟨kb, 0, none⟩ = some (.func (.func 64) #[] #[]) ∧ w'.cell? ⟨kb, 1, none⟩ = some (.func (.func 65) #[] #[]) ∧ w'.cell? ⟨kb, 2, none⟩ = some (.func (.func 66) #[] #[]) ∧ w'.cell? ⟨kb, 3, none⟩ = some (.func (.func 67) #[] #[]) ∧ w'.cell? ⟨tb, 0, none⟩ = some (.bool false) ∧ w'.cell? ⟨tb, 1, none⟩ = some (.string nm) ∧ w'.cell? ⟨tb, 2, none⟩ = some (.slice A m kc)) w4 := ⟨blk_cell h9 0, blk_cell h9 1, blk_cell h9 2, blk_cell h9 3, blk_cell h8 0, blk_cell h8 1, blk_cell h8 2⟩
    refine hK _ _ (fun _ => hS4) ?_
    clear hK K
    try simp only [Act.put, List.setIfInBounds_toArray, List.set_cons_zero, List.set_cons_succ]
    refine tk 6 43 (by kernel_rfl) hS4 (h := ?_)
    refine one 7 (h := ?_)
    intro K hK
    have c0 := blk_cell hT4 0
    have c1 := blk_cell hT4 1
    have c2 := blk_frozen hT4 0
    have c3 := blk_frozen hT4 1
    simp at c0 c1
    go_simp
    refine hK _ _ (fun h => absurd rfl h) (T_done ?_)
    clear hK K
    rw [set_same (i := 0) (v := .int .i64 0) hT4 rfl, set_same (i := 1) (v := .int .i64 0) hT4 rfl]
    go_wp2
    exact bodyPost_ret (v := .agg #[.int .i64 0, .int .i64 0]) (by simp [results, Tryz.results41, go_sem, c0, c1]) rfl ⟨rfl, hR⟩
  · have h3 := branch w2 A m kc false nm hT hb2
    go_wp2_with fail
    obtain ⟨tb, htb⟩ : ∃ tb, tb = w2.heap.size := ⟨_, rfl⟩
    obtain ⟨kb, hkb⟩ : ∃ kb, kb = w2.heap.size + 1 := ⟨_, rfl⟩
    obtain ⟨h4, h5, h6, h7⟩ := h3
    have ho3 := (ho2.alloc (.cells #[.bool false, .string nm, .slice A m kc] 112)).alloc (.cells #[.func (.func 64) #[] #[], .func (.func 65) #[] #[], .func (.func 66) #[] #[], .func (.func 67) #[] #[]] 117)
    rw [← hkb, ← htb]
    rw [← htb] at h4
    rw [← hkb] at h5
    have htl := blk_lt h4
    have hkl := blk_lt h5
    have hge : w.heap.size ≤ tb ∧ w.heap.size ≤ kb := by have := hb2.size; omega
    generalize ((w2.alloc (.cells #[.bool false, .string nm, .slice A m kc] 112)).alloc (.cells #[.func (.func 64) #[] #[], .func (.func 65) #[] #[], .func (.func 66) #[] #[], .func (.func 67) #[] #[]] 117)) = w3 at *
    clear htb hkb
    refine T_start (fun w' : World => w'.cell? ⟨kb, 0, none⟩ = some (.func (.func 64) #[] #[]) ∧ w'.cell? ⟨kb, 1, none⟩ = some (.func (.func 65) #[] #[]) ∧ w'.cell? ⟨kb, 2, none⟩ = some (.func (.func 66) #[] #[]) ∧ w'.cell? ⟨kb, 3, none⟩ = some (.func (.func 67) #[] #[]) ∧ w'.cell? ⟨tb, 0, none⟩ = some (.bool false) ∧ w'.cell? ⟨tb, 1, none⟩ = some (.string nm) ∧ w'.cell? ⟨tb, 2, none⟩ = some (.slice A m kc)) 7 (n := 8) (by kernel_rfl) rfl rfl ?_
    have hS : (fun w' : World => w'.cell? ⟨kb, 0, none⟩ = some (.func (.func 64) #[] #[]) ∧ w'.cell? ⟨kb, 1, none⟩ = some (.func (.func 65) #[] #[]) ∧ w'.cell? ⟨kb, 2, none⟩ = some (.func (.func 66) #[] #[]) ∧ w'.cell? ⟨kb, 3, none⟩ = some (.func (.func 67) #[] #[]) ∧ w'.cell? ⟨tb, 0, none⟩ = some (.bool false) ∧ w'.cell? ⟨tb, 1, none⟩ = some (.string nm) ∧ w'.cell? ⟨tb, 2, none⟩ = some (.slice A m kc)) w3.drew := ⟨blk_cell h5 0, blk_cell h5 1, blk_cell h5 2, blk_cell h5 3, blk_cell h4 0, blk_cell h4 1, blk_cell h4 2⟩
    simp only [Array.replicate_succ, Array.replicate_zero, List.push_toArray, List.nil_append, List.cons_append]
    refine tk 0 37 (by kernel_rfl) hS (h := ?_)
    refine tk 1 38 (by kernel_rfl) hS (h := ?_)
    refine tk 2 39 (by kernel_rfl) hS (h := ?_)
    refine tk 3 40 (by kernel_rfl) hS (h := ?_)
    refine tk 4 41 (by kernel_rfl) hS (h := ?_)
    refine one 5 (h := ?_)
    intro K hK
    go_simp
    refine (hc w3.drew _ h7.drew ho3 HZ0.out).mono ?_
    rintro r w4 ⟨rfl, hR, hkeep⟩
    have h8 := (hkeep tb htl hge.1).trans h4
    have h9 := (hkeep kb hkl hge.2).trans h5
    have hT4 := (hkeep w.heap.size (blk_lt h6) (Nat.le_refl _)).trans h6
    have hS4 : (fun w' : World => w'.cell? ⟨kb, 0, none⟩ = some (.func (.func 64) #[] #[]) ∧ w'.cell? ⟨kb, 1, none⟩ = some (.func (.func 65) #[] #[]) ∧ w'.cell? ⟨kb, 2, none⟩ = some (.func (.func 66) #[] #[]) ∧ w'.cell? ⟨kb, 3, none⟩ = some (.func (.func 67) #[] #[]) ∧ w'.cell? ⟨tb, 0, none⟩ = some (.bool false) ∧ w'.cell? ⟨tb, 1, none⟩ = some (.string nm) ∧ w'.cell? ⟨tb, 2, none⟩ = some (.slice A m kc)) w4 := ⟨blk_cell h9 0, blk_cell h9 1, blk_cell h9 2, blk_cell h9 3, blk_cell h8 0, blk_cell h8 1, blk_cell h8 2⟩
    refine hK _ _ (fun _ => hS4) ?_
    clear hK K
    try simp only [Act.put, List.setIfInBounds_toArray, List.set_cons_zero, List.set_cons_succ]
    refine tk 6 43 (by kernel_rfl) hS4 (h := ?_)
    refine one 7 (h := ?_)
    intro K hK
    have c0 := blk_cell hT4 0
    have c1 := blk_cell hT4 1
    have c2 := blk_frozen hT4 0
    have c3 := blk_frozen hT4 1
    simp at c0 c1
    go_simp
    refine hK _ _ (fun h => absurd rfl h) (T_done ?_)
    clear hK K
    rw [set_same (i := 0) (v := .int .i64 0) hT4 rfl, set_same (i := 1) (v := .int .i64 0) hT4 rfl]
    go_wp2
    exact bodyPost_ret (v := .agg #[.int .i64 0, .int .i64 0]) (by simp [results, Tryz.results41, go_sem, c0, c1]) rfl ⟨rfl, hR⟩
  · have h3 := branch w2 A m kc true nm hT hb2
    go_wp2_with fail
    obtain ⟨tb, htb⟩ : ∃ tb, tb = w2.heap.size := ⟨_, rfl⟩
    obtain ⟨kb, hkb⟩ : ∃ kb, kb = w2.heap.size + 1 := ⟨_, rfl⟩
    obtain ⟨h4, h5, h6, h7⟩ := h3
    have ho3 := (ho2.alloc (.cells #[.bool true, .string nm, .slice A m kc] 112)).alloc (.cells #[.func (.func 64) #[] #[], .func (.func 65) #[] #[], .func (.func 66) #[] #[], .func (.func 67) #[] #[]] 117)
    rw [← hkb, ← htb]
    rw [← htb] at h4
    rw [← hkb] at h5
    have htl := blk_lt h4
    have hkl := blk_lt h5
    have hge : w.heap.size ≤ tb ∧ w.heap.size ≤ kb := by have := hb2.size; omega
    generalize ((w2.alloc (.cells #[.bool true, .string nm, .slice A m kc] 112)).alloc (.cells #[.func (.func 64) #[] #[], .func (.func 65) #[] #[], .func (.func 66) #[] #[], .func (.func 67) #[] #[]] 117)) = w3 at *
    clear htb hkb
    refine T_start (fun w' : World => w'.cell? ⟨kb, 0, none⟩ = some (.func (.func 64) #[] #[]) ∧ w'.cell? ⟨kb, 1, none⟩ = some (.func (.func 65) #[] #[]) ∧ w'.cell? ⟨kb, 2, none⟩ = some (.func (.func 66) #[] #[]) ∧ w'.cell? ⟨kb, 3, none⟩ = some (.func (.func 67) #[] #[]) ∧ w'.cell? ⟨tb, 0, none⟩ = some (.bool true) ∧ w'.cell? ⟨tb, 1, none⟩ = some (.string nm) ∧ w'.cell? ⟨tb, 2, none⟩ = some (.slice A m kc)) 7 (n := 8) (by kernel_rfl) rfl rfl ?_
    have hS : (fun w' : World => w'.cell? ⟨kb, 0, none⟩ = some (.func (.func 64) #[] #[]) ∧ w'.cell? ⟨kb, 1, none⟩ = some (.func (.func 65) #[] #[]) ∧ w'.cell? ⟨kb, 2, none⟩ = some (.func (.func 66) #[] #[]) ∧ w'.cell? ⟨kb, 3, none⟩ = some (.func (.func 67) #[] #[]) ∧ w'.cell? ⟨tb, 0, none⟩ = some (.bool true) ∧ w'.cell? ⟨tb, 1, none⟩ = some (.string nm) ∧ w'.cell? ⟨tb, 2, none⟩ = some (.slice A m kc)) w3.drew := ⟨blk_cell h5 0, blk_cell h5 1, blk_cell h5 2, blk_cell h5 3, blk_cell h4 0, blk_cell h4 1, blk_cell h4 2⟩
    simp only [Array.replicate_succ, Array.replicate_zero, List.push_toArray, List.nil_append, List.cons_append]
    refine tk 0 37 (by kernel_rfl) hS (h := ?_)
    refine tk 1 38 (by kernel_rfl) hS (h := ?_)
    refine tk 2 39 (by kernel_rfl) hS (h := ?_)
    refine tk 3 40 (by kernel_rfl) hS (h := ?_)
    refine tk 4 41 (by kernel_rfl) hS (h := ?_)
    refine one 5 (h := ?_)
    intro K hK
    go_simp
    refine (hc w3.drew _ h7.drew ho3 HZ0.out).mono ?_
    rintro r w4 ⟨rfl, hR, hkeep⟩
    have h8 := (hkeep tb htl hge.1).trans h4
    have h9 := (hkeep kb hkl hge.2).trans h5
    have hT4 := (hkeep w.heap.size (blk_lt h6) (Nat.le_refl _)).trans h6
    have hS4 : (fun w' : World => w'.cell? ⟨kb, 0, none⟩ = some (.func (.func 64) #[] #[]) ∧ w'.cell? ⟨kb, 1, none⟩ = some (.func (.func 65) #[] #[]) ∧ w'.cell? ⟨kb, 2, none⟩ = some (.func (.func 66) #[] #[]) ∧ w'.cell? ⟨kb, 3, none⟩ = some (.func (.func 67) #[] #[]) ∧ w'.cell? ⟨tb, 0, none⟩ = some (.bool true) ∧ w'.cell? ⟨tb, 1, none⟩ = some (.string nm) ∧ w'.cell? ⟨tb, 2, none⟩ = some (.slice A m kc)) w4 := ⟨blk_cell h9 0, blk_cell h9 1, blk_cell h9 2, blk_cell h9 3, blk_cell h8 0, blk_cell h8 1, blk_cell h8 2⟩
    refine hK _ _ (fun _ => hS4) ?_
    clear hK K
    try simp only [Act.put, List.setIfInBounds_toArray, List.set_cons_zero, List.set_cons_succ]
    refine tk 6 43 (by kernel_rfl) hS4 (h := ?_)
    refine one 7 (h := ?_)
    intro K hK
    have c0 := blk_cell hT4 0
    have c1 := blk_cell hT4 1
    have c2 := blk_frozen hT4 0
    have c3 := blk_frozen hT4 1
    simp at c0 c1
    go_simp
    refine hK _ _ (fun h => absurd rfl h) (T_done ?_)
    clear hK K
    rw [set_same (i := 0) (v := .int .i64 0) hT4 rfl, set_same (i := 1) (v := .int .i64 0) hT4 rfl]
    go_wp2
    exact bodyPost_ret (v := .agg #[.int .i64 0, .int .i64 0]) (by simp [results, Tryz.results41, go_sem, c0, c1]) rfl ⟨rfl, hR⟩
  · have h3 := branch w2 A m kc true nm hT hb2
    go_wp2_with fail
    obtain ⟨tb, htb⟩ : ∃ tb, tb = w2.heap.size := ⟨_, rfl⟩
    obtain ⟨kb, hkb⟩ : ∃ kb, kb = w2.heap.size + 1 := ⟨_, rfl⟩
    obtain ⟨h4, h5, h6, h7⟩ := h3
    have ho3 := (ho2.alloc (.cells #[.bool true, .string nm, .slice A m kc] 112)).alloc (.cells #[.func (.func 64) #[] #[], .func (.func 65) #[] #[], .func (.func 66) #[] #[], .func (.func 67) #[] #[]] 117)
    rw [← hkb, ← htb]
    rw [← htb] at h4
    rw [← hkb] at h5
    have htl := blk_lt h4
    have hkl := blk_lt h5
    have hge : w.heap.size ≤ tb ∧ w.heap.size ≤ kb := by have := hb2.size; omega
    generalize ((w2.alloc (.cells #[.bool true, .string nm, .slice A m kc] 112)).alloc (.cells #[.func (.func 64) #[] #[], .func (.func 65) #[] #[], .func (.func 66) #[] #[], .func (.func 67) #[] #[]] 117)) = w3 at *
    clear htb hkb
    refine T_start (fun w' : World => w'.cell? ⟨kb, 0, none⟩ = some (.func (.func 64) #[] #[]) ∧ w'.cell? ⟨kb, 1, none⟩ = some (.func (.func 65) #[] #[]) ∧ w'.cell? ⟨kb, 2, none⟩ = some (.func (.func 66) #[] #[]) ∧ w'.cell? ⟨kb, 3, none⟩ = some (.func (.func 67) #[] #[]) ∧ w'.cell? ⟨tb, 0, none⟩ = some (.bool true) ∧ w'.cell? ⟨tb, 1, none⟩ = some (.string nm) ∧ w'.cell? ⟨tb, 2, none⟩ = some (.slice A m kc)) 7 (n := 8) (by kernel_rfl) rfl rfl ?_
    have hS : (fun w' : World => w'.cell? ⟨kb, 0, none⟩ = some (.func (.func 64) #[] #[]) ∧ w'.cell? ⟨kb, 1, none⟩ = some (.func (.func 65) #[] #[]) ∧ w'.cell? ⟨kb, 2, none⟩ = some (.func (.func 66) #[] #[]) ∧ w'.cell? ⟨kb, 3, none⟩ = some (.func (.func 67) #[] #[]) ∧ w'.cell? ⟨tb, 0, none⟩ = some (.bool true) ∧ w'.cell? ⟨tb, 1, none⟩ = some (.string nm) ∧ w'.cell? ⟨tb, 2, none⟩ = some (.slice A m kc)) w3.drew := ⟨blk_cell h5 0, blk_cell h5 1, blk_cell h5 2, blk_cell h5 3, blk_cell h4 0, blk_cell h4 1, blk_cell h4 2⟩
    simp only [Array.replicate_succ, Array.replicate_zero, List.push_toArray, List.nil_append, List.cons_append]
    refine tk 0 37 (by kernel_rfl) hS (h := ?_)
    refine tk 1 38 (by kernel_rfl) hS (h := ?_)
    refine tk 2 39 (by kernel_rfl) hS (h := ?_)
    refine tk 3 40 (by kernel_rfl) hS (h := ?_)
    refine tk 4 41 (by kernel_rfl) hS (h := ?_)
    refine one 5 (h := ?_)
    intro K hK
    go_simp
    refine (hc w3.drew _ h7.drew ho3 HZ0.out).mono ?_
    rintro r w4 ⟨rfl, hR, hkeep⟩
    have h8 := (hkeep tb htl hge.1).trans h4
    have h9 := (hkeep kb hkl hge.2).trans h5
    have hT4 := (hkeep w.heap.size (blk_lt h6) (Nat.le_refl _)).trans h6
    have hS4 : (fun w' : World => w'.cell? ⟨kb, 0, none⟩ = some (.func (.func 64) #[] #[]) ∧ w'.cell? ⟨kb, 1, none⟩ = some (.func (.func 65) #[] #[]) ∧ w'.cell? ⟨kb, 2, none⟩ = some (.func (.func 66) #[] #[]) ∧ w'.cell? ⟨kb, 3, none⟩ = some (.func (.func 67) #[] #[]) ∧ w'.cell? ⟨tb, 0, none⟩ = some (.bool true) ∧ w'.cell? ⟨tb, 1, none⟩ = some (.string nm) ∧ w'.cell? ⟨tb, 2, none⟩ = some (.slice A m kc)) w4 := ⟨blk_cell h9 0, blk_cell h9 1, blk_cell h9 2, blk_cell h9 3, blk_cell h8 0, blk_cell h8 1, blk_cell h8 2⟩
    refine hK _ _ (fun _ => hS4) ?_
    clear hK K
    try simp only [Act.put, List.setIfInBounds_toArray, List.set_cons_zero, List.set_cons_succ]
    refine tk 6 43 (by kernel_rfl) hS4 (h := ?_)
    refine one 7 (h := ?_)
    intro K hK
    have c0 := blk_cell hT4 0
    have c1 := blk_cell hT4 1
    have c2 := blk_frozen hT4 0
    have c3 := blk_frozen hT4 1
    simp at c0 c1
    go_simp
    refine hK _ _ (fun h => absurd rfl h) (T_done ?_)
    clear hK K
    rw [set_same (i := 0) (v := .int .i64 0) hT4 rfl, set_same (i := 1) (v := .int .i64 0) hT4 rfl]
    go_wp2
    exact bodyPost_ret (v := .agg #[.int .i64 0, .int .i64 0]) (by simp [results, Tryz.results41, go_sem, c0, c1]) rfl ⟨rfl, hR⟩
end Go.Proofs.YthjcmodhleoocaaGreatDoor.Z
/- ZDoc -/
namespace Go.Proofs.YthjcmodhleoocaaGreatDoor.Z
open Go Go.RowKit Go.Lib
set_option linter.unusedVariables false
def sText : ByteArray := ⟨#[116, 101, 120, 116]⟩
def sId : ByteArray := ⟨#[116]⟩
def sS : ByteArray := ⟨#[115]⟩
def l1 : ByteArray := ⟨#[60, 116, 101, 120, 116, 32, 105, 100, 61, 34, 116, 34, 62]⟩
def l2 : ByteArray := ⟨#[60, 115, 62]⟩
def l3 : ByteArray := ⟨#[97]⟩
def l4 : ByteArray := ⟨#[60, 47, 115, 62]⟩
def l5 : ByteArray := ⟨#[98]⟩
def l6 : ByteArray := ⟨#[60, 47, 116, 101, 120, 116, 62]⟩
theorem nmS : nmB sS = true := by decide
theorem nmId : nmB sId = true := by decide
theorem allB {P : Nat → Bool} {a b : Nat} (h : ((List.range b).all fun p => decide (p < a) || P p) = true) : ∀ p, a ≤ p → p < b → P p = true := fun p h1 h2 => by
  have := List.all_eq_true.1 h p (List.mem_range.2 h2)
  simp only [Bool.or_eq_true, decide_eq_true_eq] at this
  exact this.resolve_left (by omega)
theorem open2 : OpenAt l2 2 sS := ⟨by decide, by decide, by decide, allB (by decide), by decide, by decide, by decide, by decide⟩
theorem close4 : CloseAt l4 3 sS := ⟨by decide, by decide, by decide, by decide, allB (by decide), by decide, by decide, by decide, by decide⟩
theorem close6 : CloseAt l6 6 sText := ⟨by decide, by decide, by decide, by decide, allB (by decide), by decide, by decide, by decide, by decide⟩
theorem tag1 : TagAt l1 5 sText := ⟨by decide, by decide, by decide, allB (by decide), by decide, by decide, by decide⟩
theorem key1 : KeyAt l1 6 8 ⟨#[105, 100]⟩ sId := ⟨by decide, by decide, allB (by decide), by decide, by decide, by decide, by decide, by decide, by decide, by decide, by decide, by decide, by decide, by decide, by decide⟩
theorem tok3 : Tok l3 := ⟨by decide, by decide, by decide, by decide⟩
theorem tok5 : Tok l5 := ⟨by decide, by decide, by decide, by decide⟩
end Go.Proofs.YthjcmodhleoocaaGreatDoor.Z
/- ZSix -/
namespace Go.Proofs.YthjcmodhleoocaaGreatDoor.Z
open Go Go.RowKit Go.Lib
set_option linter.unusedVariables false
def sWord : ByteArray := ⟨#[119, 111, 114, 100]⟩
/-- The reader at block x, which the call has made. -/
structure Rd (W w : World) (x : Nat) (av tv xv rv ov : Value) (t : Bool) : Prop where
  hb : Below W.heap.size W w
  xb : W.heap.size ≤ x
  hx : w.heap[x]? = some (.cells #[av, tv, xv, rv, .slice none 0 0, .slice none 0 0, .slice none 0 0, ov, .bool t] 93 (0, 0))
  ha : w.ownsRow W.heap.size 73 2 av 1 [.string sWord, .bool false]
  hc : w.heap[W.heap.size]? = some (.cells #[.slice none 0 0, .slice none 0 0, .slice none 0 0, .slice none 0 0, .slice none 0 0, .slice none 0 0, .slice none 0 0] 30 (0, 0))
  hp : w.heap[W.heap.size + 1]? = some (.cells #[.int .i64 0, .int .i64 0] 69 (0, 0))
abbrev NilS : Value := .slice none 0 0
theorem ne_type {w : World} {a b s t : Nat} {cs ds : Array Value} (h : w.heap[a]? = some (.cells cs s (0, 0))) (k : w.heap[b]? = some (.cells ds t (0, 0))) (hst : s ≠ t) : a ≠ b := by
  rintro rfl
  rw [h] at k
  injection k with k
  injection k with _ k
  exact hst k
/-- One text, not ended (end -1), or ended. -/
def TxtR (W w : World) (xv : Value) (en : Int) : Prop := w.ownsRow W.heap.size 85 4 xv 1 [.string sId, .int .i64 0, .int .i64 en, .slice none 0 0]
def RegR (W w : World) (v : Value) (en : Int) : Prop := w.ownsRow W.heap.size 78 4 v 1 [.string sS, .int .i64 0, .int .i64 en, .slice none 0 0]
def TksR (W w : World) (tv : Value) (ss : List ByteArray) : Prop := ∃ vs : List Value, w.ownsRow W.heap.size 28 1 tv ss.length vs ∧ vs.length = ss.length ∧ ∀ (i : Nat) (v : Value) (s : ByteArray), vs[i]? = some v → ss[i]? = some s → w.ownsRow W.heap.size 9 1 v 1 [.string s]
theorem Rd.move {W w w' : World} {x : Nat} {av tv xv rv ov : Value} {t : Bool} (h : Rd W w x av tv xv rv ov t) (hb : Below w.heap.size w w') : Rd W w' x av tv xv rv ov t :=
  ⟨h.hb.trans (hb.mono h.hb.size), h.xb, (hb.block x (blk_lt h.hx)).trans h.hx, own_move h.ha (fun k hk => hb.block k (h.ha.lt k hk).2), (hb.block _ (blk_lt h.hc)).trans h.hc, (hb.block _ (blk_lt h.hp)).trans h.hp⟩
theorem line1 (W w : World) (x : Nat) (av : Value) (h : Rd W w x av NilS NilS NilS NilS false) :
    Calls Tryz.prog 41 #[.pointer (some ⟨x, 0, none⟩), .string l1] w fun r w' => r = .returned (.agg #[.int .i64 0, .int .i64 0]) ∧ ∃ xv, Rd W w' x av NilS xv NilS NilS true ∧ TxtR W w' xv (-1) := by
  have hxl := blk_lt h.hx
  refine lineTag w x 66 l1 sText false 1 [.string ⟨#[105, 100]⟩, .string sId] (fun w' => ∃ xv, Rd W w' x av NilS xv NilS NilS true ∧ TxtR W w' xv (-1)) hxl (by decide) ?_ ?_ true (by rw [Lib.toList_data]; decide) (by decide)
  · intro w b hS
    exact (tagKey w b 5 8 l1 sText ⟨#[105, 100]⟩ sId (by decide) hS tag1 key1 (by decide) (by decide)).mono (fun r w' ⟨v, h1, h2, h3⟩ => ⟨_, h1, ⟨v, rfl, h2, fun e => absurd e (by decide)⟩, h3⟩)
  · intro w1 kv hb ho hz
    have h1 := h.move hb
    obtain ⟨gk, ck, rfl, _, _⟩ := own_form ho
    refine (beginText w1 x gk ck w.heap.size av NilS NilS false sText sId nmId h1.hx ho).mono ?_
    rintro r w2 ⟨rfl, xv, a, b, c⟩
    refine ⟨rfl, ⟨xv, ⟨h1.hb.trans (c.below (fun k hk => by rw [hk]; exact h.xb) h1.hb.size), h.xb, a, own_ch h1.ha c (fun k hk e => own_ne h1.ha h1.hx (by decide) (by rw [hk, e])), (c.rest _ (blk_lt h1.hc) (ne_type h1.hc h1.hx (by decide))).trans h1.hc, (c.rest _ (blk_lt h1.hp) (ne_type h1.hp h1.hx (by decide))).trans h1.hp⟩, own_lower b h1.hb.size⟩, fun k hk hge => c.rest k hk (by omega)⟩
theorem line2 (W w : World) (x : Nat) (av xv : Value) (h : Rd W w x av NilS xv NilS NilS true) (hT : TxtR W w xv (-1)) :
    Calls Tryz.prog 41 #[.pointer (some ⟨x, 0, none⟩), .string l2] w fun r w' => r = .returned (.agg #[.int .i64 0, .int .i64 0]) ∧ ∃ ov, Rd W w' x av NilS xv NilS ov true ∧ TxtR W w' xv (-1) ∧ RegR W w' ov 0 := by
  have hxl := blk_lt h.hx
  refine lineTag w x 64 l2 sS false 0 [] (fun w' => ∃ ov, Rd W w' x av NilS xv NilS ov true ∧ TxtR W w' xv (-1) ∧ RegR W w' ov 0) hxl (by decide) ?_ ?_ false (by rw [Lib.toList_data]; decide) (by decide)
  · intro w b hS
    exact (tagOpen w b 2 l2 sS (by decide) hS open2).mono (fun r w' ⟨h1, h3⟩ => ⟨_, h1, ⟨_, rfl, World.ownsRow_nil _ _ _ _, fun _ => rfl⟩, h3⟩)
  · intro w1 kv hb ho hz
    have h1 := h.move hb
    have hT1 : TxtR W w1 xv (-1) := own_move hT (fun k hk => hb.block k (hT.lt k hk).2)
    have hkv := hz rfl
    subst hkv
    refine (beginRegion w1 x 0 0 av NilS xv none 0 false sS (Nat.zero_le _) rfl (by omega) h1.hx).mono ?_
    rintro r w2 ⟨rfl, ov, a, b, c⟩
    refine ⟨rfl, ⟨ov, ⟨h1.hb.trans (c.below (fun k hk => by rw [hk]; exact h.xb) h1.hb.size), h.xb, a, own_ch h1.ha c (fun k hk e => own_ne h1.ha h1.hx (by decide) (by rw [hk, e])), (c.rest _ (blk_lt h1.hc) (ne_type h1.hc h1.hx (by decide))).trans h1.hc, (c.rest _ (blk_lt h1.hp) (ne_type h1.hp h1.hx (by decide))).trans h1.hp⟩, own_ch hT1 c (fun k hk e => own_ne hT1 h1.hx (by decide) (by rw [hk, e])), own_lower b h1.hb.size⟩, fun k hk hge => c.rest k hk (by omega)⟩
theorem TksR.ch {P : Nat → Prop} {W w w' : World} {tv : Value} {ss : List ByteArray} (h : TksR W w tv ss) (hc : Ch P w w') (h1 : ∀ k, tv.ownBlock = some k → ¬ P k) (h2 : ∀ (v : Value) (s : ByteArray), w.ownsRow W.heap.size 9 1 v 1 [.string s] → ∀ k, v.ownBlock = some k → ¬ P k) : TksR W w' tv ss := by
  obtain ⟨vs, a, b, c⟩ := h
  exact ⟨vs, own_ch a hc h1, b, fun i v s hi hs => own_ch (c i v s hi hs) hc (h2 v s (c i v s hi hs))⟩
theorem lineTok (W w : World) (x : Nat) (av tv xv rv ov : Value) (ss : List ByteArray) (s : ByteArray) (h : Rd W w x av tv xv rv ov true) (hK : TksR W w tv ss) (hl : ss.length ≤ 50) (K : Tok s) (hp : Lib.hasPrefix s.data.toList [60] = false) :
    Calls Tryz.prog 41 #[.pointer (some ⟨x, 0, none⟩), .string s] w fun r w' => r = .returned (.agg #[.int .i64 0, .int .i64 0]) ∧ ∃ tv', Rd W w' x av tv' xv rv ov true ∧ TksR W w' tv' (ss ++ [s]) ∧ Ch (fun k => k = x ∨ tv.ownBlock = some k) w w' := by
  obtain ⟨vs, a, b, c⟩ := hK
  refine (lineToken w x W.heap.size ss.length av tv xv rv ov sWord s vs h.hb.size (by omega) hp h.hx h.ha a K).mono ?_
  rintro r w' ⟨rfl, tv', sv, d, e, f, g⟩
  have hP : ∀ k, (k = x ∨ tv.ownBlock = some k) → W.heap.size ≤ k := fun k hk => by
    rcases hk with rfl | hk
    · exact h.xb
    · exact (a.lt k hk).1
  refine ⟨rfl, tv', ⟨h.hb.trans (g.below hP h.hb.size), h.xb, d, own_ch h.ha g (fun k hk e => by
    rcases e with e | e
    · exact own_ne h.ha h.hx (by decide) (by rw [hk, e])
    · exact own_ne2 h.ha a (by decide) k e hk), (g.rest _ (blk_lt h.hc) (fun e => by
    rcases e with e | e
    · exact ne_type h.hc h.hx (by decide) e
    · exact own_ne a h.hc (by decide) e)).trans h.hc, (g.rest _ (blk_lt h.hp) (fun e => by
    rcases e with e | e
    · exact ne_type h.hp h.hx (by decide) e
    · exact own_ne a h.hp (by decide) e)).trans h.hp⟩, ⟨vs ++ [sv], by simpa using e, by simp [b], fun i v s' hi hs => ?_⟩, g⟩
  by_cases hlt : i < vs.length
  · rw [List.getElem?_append_left hlt] at hi
    rw [List.getElem?_append_left (by omega)] at hs
    have hc := c i v s' hi hs
    exact own_ch hc g (fun k hk e => by
      rcases e with e | e
      · exact own_ne hc h.hx (by decide) (by rw [hk, e])
      · exact own_ne2 hc a (by decide) k e hk)
  · rw [List.getElem?_append_right (by omega)] at hi
    rw [List.getElem?_append_right (by omega)] at hs
    have h0 : i - vs.length = 0 := by
      rcases Nat.eq_zero_or_pos (i - vs.length) with z | z
      · exact z
      · rw [List.getElem?_eq_none (by simp; omega)] at hi; cases hi
    rw [h0] at hi
    rw [show i - ss.length = 0 by omega] at hs
    simp at hi hs
    subst hi; subst hs
    exact own_lower f h.hb.size
theorem line4 (W w : World) (x : Nat) (av tv xv ov : Value) (ss : List ByteArray) (h : Rd W w x av tv xv NilS ov true) (hT : TxtR W w xv (-1)) (hO : RegR W w ov 0) (hK : TksR W w tv ss) (hl : 1 ≤ ss.length ∧ ss.length ≤ 50) :
    Calls Tryz.prog 41 #[.pointer (some ⟨x, 0, none⟩), .string l4] w fun r w' => r = .returned (.agg #[.int .i64 0, .int .i64 0]) ∧ ∃ rv A c, Rd W w' x av tv xv rv (.slice A 0 c) true ∧ TxtR W w' xv (-1) ∧ RegR W w' rv ss.length ∧ TksR W w' tv ss := by
  have hxl := blk_lt h.hx
  refine lineTag w x 65 l4 sS true 0 [] (fun w' => ∃ rv A c, Rd W w' x av tv xv rv (.slice A 0 c) true ∧ TxtR W w' xv (-1) ∧ RegR W w' rv ss.length ∧ TksR W w' tv ss) hxl (by decide) ?_ ?_ false (by rw [Lib.toList_data]; decide) (by decide)
  · intro w b hS
    exact (tagClose w b 3 l4 sS (by decide) hS close4).mono (fun r w' ⟨h1, h3⟩ => ⟨_, h1, ⟨_, rfl, World.ownsRow_nil _ _ _ _, fun _ => rfl⟩, h3⟩)
  · intro w1 kv hb ho hz
    have h1 := h.move hb
    have hT1 : TxtR W w1 xv (-1) := own_move hT (fun k hk => hb.block k (hT.lt k hk).2)
    have hO1 : RegR W w1 ov 0 := own_move hO (fun k hk => hb.block k (hO.lt k hk).2)
    have hK1 : TksR W w1 tv ss := hK.ch (Ch.of_below (fun _ => False) hb) (fun _ _ e => e) (fun _ _ _ _ _ e => e)
    have hkv := hz rfl
    subst hkv
    obtain ⟨go, co, rfl, _, _⟩ := own_form hO1
    obtain ⟨At, ct, htv⟩ := own_slice hK1.choose_spec.1
    refine (endRegion w1 x ss.length go co av tv xv At ct true sS htv (by omega) h1.hx (own_lower hO1 (Nat.zero_le _))).mono ?_
    rintro r w2 ⟨rfl, rv, a, b, c⟩
    have hP : ∀ {e size n : Nat} {v : Value} {xs : List Value}, w1.ownsRow W.heap.size e size v n xs → e ≠ 93 → ∀ k, v.ownBlock = some k → ¬ (k = x) := fun ho he k hk e => own_ne ho h1.hx he (by rw [hk, e])
    exact ⟨rfl, ⟨rv, _, _, ⟨h1.hb.trans (c.below (fun k hk => by rw [hk]; exact h.xb) h1.hb.size), h.xb, a, own_ch h1.ha c (hP h1.ha (by decide)), (c.rest _ (blk_lt h1.hc) (ne_type h1.hc h1.hx (by decide))).trans h1.hc, (c.rest _ (blk_lt h1.hp) (ne_type h1.hp h1.hx (by decide))).trans h1.hp⟩, own_ch hT1 c (hP hT1 (by decide)), own_lower b h1.hb.size, hK1.ch c (hP hK1.choose_spec.1 (by decide)) (fun v s hv => hP hv (by decide))⟩, fun k hk hge => c.rest k hk (by omega)⟩
theorem line6 (W w : World) (x : Nat) (av tv xv rv : Value) (Ao : Option Addr) (co : Nat) (en : Int) (ss : List ByteArray) (h : Rd W w x av tv xv rv (.slice Ao 0 co) true) (hT : TxtR W w xv (-1)) (hR : RegR W w rv en) (hK : TksR W w tv ss) (hl : 1 ≤ ss.length ∧ ss.length ≤ 50) :
    Calls Tryz.prog 41 #[.pointer (some ⟨x, 0, none⟩), .string l6] w fun r w' => r = .returned (.agg #[.int .i64 0, .int .i64 0]) ∧ Rd W w' x av tv xv rv (.slice Ao 0 co) false ∧ TxtR W w' xv ss.length ∧ RegR W w' rv en ∧ TksR W w' tv ss := by
  have hxl := blk_lt h.hx
  refine lineTag w x 67 l6 sText true 0 [] (fun w' => Rd W w' x av tv xv rv (.slice Ao 0 co) false ∧ TxtR W w' xv ss.length ∧ RegR W w' rv en ∧ TksR W w' tv ss) hxl (by decide) ?_ ?_ true (by rw [Lib.toList_data]; decide) (by decide)
  · intro w b hS
    exact (tagClose w b 6 l6 sText (by decide) hS close6).mono (fun r w' ⟨h1, h3⟩ => ⟨_, h1, ⟨_, rfl, World.ownsRow_nil _ _ _ _, fun _ => rfl⟩, h3⟩)
  · intro w1 kv hb ho hz
    have h1 := h.move hb
    have hT1 : TxtR W w1 xv (-1) := own_move hT (fun k hk => hb.block k (hT.lt k hk).2)
    have hR1 : RegR W w1 rv en := own_move hR (fun k hk => hb.block k (hR.lt k hk).2)
    have hK1 : TksR W w1 tv ss := hK.ch (Ch.of_below (fun _ => False) hb) (fun _ _ e => e) (fun _ _ _ _ _ e => e)
    have hkv := hz rfl
    subst hkv
    have hTl := hT.lt
    obtain ⟨gt, cx, rfl, hgt, _⟩ := own_form hT1
    have hgtw : gt < w.heap.size := (hTl gt rfl).2
    obtain ⟨At, ct, htv⟩ := own_slice hK1.choose_spec.1
    refine (endText w1 x ss.length gt cx W.heap.size co av tv rv At Ao ct true sText sId htv (by omega) h1.hx hT1).mono ?_
    rintro r w2 ⟨rfl, a, b, c⟩
    have hP : ∀ {e size n : Nat} {v : Value} {xs : List Value}, w1.ownsRow W.heap.size e size v n xs → e ≠ 93 → e ≠ 85 → ∀ k, v.ownBlock = some k → ¬ (k = x ∨ k = gt) := fun ho he he' k hk e => by
      rcases e with e | e
      · exact own_ne ho h1.hx he (by rw [hk, e])
      · exact own_ne2 ho hT1 he' k (by rw [e]; rfl) hk
    exact ⟨rfl, ⟨⟨h1.hb.trans (c.below (fun k hk => by rcases hk with rfl | rfl; exact h.xb; exact hgt) h1.hb.size), h.xb, a, own_ch h1.ha c (hP h1.ha (by decide) (by decide)), (c.rest _ (blk_lt h1.hc) (fun e => by rcases e with e | e; exact ne_type h1.hc h1.hx (by decide) e; exact own_ne hT1 h1.hc (by decide) (by rw [e]; rfl))).trans h1.hc, (c.rest _ (blk_lt h1.hp) (fun e => by rcases e with e | e; exact ne_type h1.hp h1.hx (by decide) e; exact own_ne hT1 h1.hp (by decide) (by rw [e]; rfl))).trans h1.hp⟩, b, own_ch hR1 c (hP hR1 (by decide) (by decide)), hK1.ch c (hP hK1.choose_spec.1 (by decide) (by decide)) (fun v s hv => hP hv (by decide) (by decide))⟩, fun k hk hge => c.rest k hk (by omega)⟩
end Go.Proofs.YthjcmodhleoocaaGreatDoor.Z
/- ZValidate -/
namespace Go.Proofs.YthjcmodhleoocaaGreatDoor.Z
open Go Go.RowKit Go.Lib
set_option linter.unusedVariables false
set_option linter.unusedSimpArgs false
set_option maxRecDepth 100000 in
set_option maxHeartbeats 8000000 in
theorem validate (w : World) (a0 a1 a2 a3 a4 a5 a6 : Value)
    (hall : ∀ i : Nat, i < 6 → ∀ w1, Below w.heap.size w w1 → Calls Tryz.prog (44 + i) #[.agg #[a0, a1, a2, a3, a4, a5, a6]] w1 fun r w' => r = .returned (.tuple #[.int .i64 0, .int .i64 0]) ∧ Below w1.heap.size w1 w') :
    Calls Tryz.prog 27 #[.agg #[a0, a1, a2, a3, a4, a5, a6]] w fun r w' => r = .returned (.tuple #[.int .i64 0, .int .i64 0, .int .i64 0]) ∧ Below w.heap.size w w' := by
  have H := Lib.hid hall
  clear hall
  have hb1 : Below w.heap.size w (w.alloc (.cells #[a0, a1, a2, a3, a4, a5, a6] 30)) := (Below.refl _ w).alloc (Nat.le_refl _) _
  have hx1 := blk_new w (.cells #[a0, a1, a2, a3, a4, a5, a6] 30)
  go_enter Tryz.func27, Tryz.ntmps27
  go_wp2
  have hb2 := hb1.alloc hb1.size (.cells #[.func (.func 44) #[] #[], .func (.func 45) #[] #[], .func (.func 46) #[] #[], .func (.func 47) #[] #[], .func (.func 48) #[] #[], .func (.func 49) #[] #[]] 101)
  have hp2 : ((w.alloc (.cells #[a0, a1, a2, a3, a4, a5, a6] 30)).alloc (.cells #[.func (.func 44) #[] #[], .func (.func 45) #[] #[], .func (.func 46) #[] #[], .func (.func 47) #[] #[], .func (.func 48) #[] #[], .func (.func 49) #[] #[]] 101)).heap[w.heap.size + 1]? = some (Go.Obj.cells #[.func (.func 44) #[] #[], .func (.func 45) #[] #[], .func (.func 46) #[] #[], .func (.func 47) #[] #[], .func (.func 48) #[] #[], .func (.func 49) #[] #[]] 101 (0, 0)) := by
    simpa using blk_new (w.alloc (.cells #[a0, a1, a2, a3, a4, a5, a6] 30)) (.cells #[.func (.func 44) #[] #[], .func (.func 45) #[] #[], .func (.func 46) #[] #[], .func (.func 47) #[] #[], .func (.func 48) #[] #[], .func (.func 49) #[] #[]] 101)
  have hx2 := blk_alloc hx1 (.cells #[.func (.func 44) #[] #[], .func (.func 45) #[] #[], .func (.func 46) #[] #[], .func (.func 47) #[] #[], .func (.func 48) #[] #[], .func (.func 49) #[] #[]] 101)
  obtain ⟨cb, hcb⟩ : ∃ cb, cb = w.heap.size := ⟨_, rfl⟩
  obtain ⟨pb, hpb⟩ : ∃ pb, pb = w.heap.size + 1 := ⟨_, rfl⟩
  rw [← hpb, ← hcb]
  rw [← hpb] at hp2
  rw [← hcb] at hx2
  clear hcb hpb hx1 hb1
  generalize (w.alloc (.cells #[a0, a1, a2, a3, a4, a5, a6] 30)).alloc (.cells #[.func (.func 44) #[] #[], .func (.func 45) #[] #[], .func (.func 46) #[] #[], .func (.func 47) #[] #[], .func (.func 48) #[] #[], .func (.func 49) #[] #[]] 101) = w2 at *
  go_loopg [13] 6 (fun q v w' => ∃ i : Nat, i + q = 6 ∧ v = .int .i64 i ∧ Aside (Below w.heap.size w w' ∧ w'.heap[cb]? = some (.cells #[a0, a1, a2, a3, a4, a5, a6] 30 (0, 0)) ∧ w'.heap[pb]? = some (Go.Obj.cells #[.func (.func 44) #[] #[], .func (.func 45) #[] #[], .func (.func 46) #[] #[], .func (.func 47) #[] #[], .func (.func 48) #[] #[], .func (.func 49) #[] #[]] 101 (0, 0))))
  case atStart => exact ⟨0, by omega, rfl, ⟨hb2, hx2, hp2⟩⟩
  case round =>
    obtain ⟨i, hi, rfl, HA⟩ := hrel
    obtain ⟨hb, hx, hp⟩ := HA.out
    clear HA hb2 hx2 hp2
    have x0 := blk_cell hx 0
    have x1 := blk_cell hx 1
    have x2 := blk_cell hx 2
    have x3 := blk_cell hx 3
    have x4 := blk_cell hx 4
    have x5 := blk_cell hx 5
    have x6 := blk_cell hx 6
    have p0 := blk_cell hp 0
    have p1 := blk_cell hp 1
    have p2 := blk_cell hp 2
    have p3 := blk_cell hp 3
    have p4 := blk_cell hp 4
    have p5 := blk_cell hp 5
    simp at x0 x1 x2 x3 x4 x5 x6 p0 p1 p2 p3 p4 p5
    obtain rfl | rfl | rfl | rfl | rfl | rfl | rfl : i = 0 ∨ i = 1 ∨ i = 2 ∨ i = 3 ∨ i = 4 ∨ i = 5 ∨ i = 6 := by omega
    · have hgk := Lib.hid hi
      clear hi
      go_wp2_with fail
      refine (H.out 0 (show 0 < 6 by decide) _ hb).mono ?_
      rintro r w3 ⟨rfl, hb3⟩
      go_wp2_with fail
      go_roundg (gk - 1)
      case measure => have := hgk.out; omega
      case rel => exact ⟨1, by have := hgk.out; omega, by rfl, ⟨hb.trans (hb3.mono hb.size), (hb3.block cb (blk_lt hx)).trans hx, (hb3.block pb (blk_lt hp)).trans hp⟩⟩
    · have hgk := Lib.hid hi
      clear hi
      go_wp2_with fail
      refine (H.out 1 (show 1 < 6 by decide) _ hb).mono ?_
      rintro r w3 ⟨rfl, hb3⟩
      go_wp2_with fail
      go_roundg (gk - 1)
      case measure => have := hgk.out; omega
      case rel => exact ⟨2, by have := hgk.out; omega, by rfl, ⟨hb.trans (hb3.mono hb.size), (hb3.block cb (blk_lt hx)).trans hx, (hb3.block pb (blk_lt hp)).trans hp⟩⟩
    · have hgk := Lib.hid hi
      clear hi
      go_wp2_with fail
      refine (H.out 2 (show 2 < 6 by decide) _ hb).mono ?_
      rintro r w3 ⟨rfl, hb3⟩
      go_wp2_with fail
      go_roundg (gk - 1)
      case measure => have := hgk.out; omega
      case rel => exact ⟨3, by have := hgk.out; omega, by rfl, ⟨hb.trans (hb3.mono hb.size), (hb3.block cb (blk_lt hx)).trans hx, (hb3.block pb (blk_lt hp)).trans hp⟩⟩
    · have hgk := Lib.hid hi
      clear hi
      go_wp2_with fail
      refine (H.out 3 (show 3 < 6 by decide) _ hb).mono ?_
      rintro r w3 ⟨rfl, hb3⟩
      go_wp2_with fail
      go_roundg (gk - 1)
      case measure => have := hgk.out; omega
      case rel => exact ⟨4, by have := hgk.out; omega, by rfl, ⟨hb.trans (hb3.mono hb.size), (hb3.block cb (blk_lt hx)).trans hx, (hb3.block pb (blk_lt hp)).trans hp⟩⟩
    · have hgk := Lib.hid hi
      clear hi
      go_wp2_with fail
      refine (H.out 4 (show 4 < 6 by decide) _ hb).mono ?_
      rintro r w3 ⟨rfl, hb3⟩
      go_wp2_with fail
      go_roundg (gk - 1)
      case measure => have := hgk.out; omega
      case rel => exact ⟨5, by have := hgk.out; omega, by rfl, ⟨hb.trans (hb3.mono hb.size), (hb3.block cb (blk_lt hx)).trans hx, (hb3.block pb (blk_lt hp)).trans hp⟩⟩
    · have hgk := Lib.hid hi
      clear hi
      go_wp2_with fail
      refine (H.out 5 (show 5 < 6 by decide) _ hb).mono ?_
      rintro r w3 ⟨rfl, hb3⟩
      go_wp2_with fail
      go_roundg (gk - 1)
      case measure => have := hgk.out; omega
      case rel => exact ⟨6, by have := hgk.out; omega, by rfl, ⟨hb.trans (hb3.mono hb.size), (hb3.block cb (blk_lt hx)).trans hx, (hb3.block pb (blk_lt hp)).trans hp⟩⟩
    · go_wp2
      go_ret3
      exact ⟨rfl, hb⟩
end Go.Proofs.YthjcmodhleoocaaGreatDoor.Z
/- ZCheck -/
namespace Go.Proofs.YthjcmodhleoocaaGreatDoor.Z
open Go Go.RowKit Go.Lib
set_option linter.unusedVariables false
set_option linter.unusedSimpArgs false
theorem validate0 (w : World) (ga ca : Nat) (wd : ByteArray) (hc : 1 ≤ ca) (hw : nmB wd = true) (h0 : w.cell? ⟨ga, 0, none⟩ = some (.string wd)) (h1 : w.cell? ⟨ga, 1, none⟩ = some (.bool false)) :
    Calls Tryz.prog 27 #[.agg #[.slice (some ⟨ga, 0, none⟩) 1 ca, .slice none 0 0, .slice none 0 0, .slice none 0 0, .slice none 0 0, .slice none 0 0, .slice none 0 0]] w fun r w' => r = .returned (.tuple #[.int .i64 0, .int .i64 0, .int .i64 0]) ∧ Below w.heap.size w w' := by
  refine validate w _ _ _ _ _ _ _ ?_
  intro i hi w1 hb
  have e0 := (hb.cell (World.block_lt_of_cell? w _ h0)).trans h0
  have e1 := (hb.cell (World.block_lt_of_cell? w _ h1)).trans h1
  obtain rfl | rfl | rfl | rfl | rfl | rfl : i = 0 ∨ i = 1 ∨ i = 2 ∨ i = 3 ∨ i = 4 ∨ i = 5 := by omega
  · exact vaAttributes w1 ga ca _ _ _ _ _ _ wd false hc hw e0 e1
  · exact vaTokens w1 ga ca 0 0 none _ _ _ _ _ wd (by omega) e0 e1 (fun i hi => absurd hi (by omega))
  · exact vaNoText w1 _ _ _ _ _ none 0
  · exact vaNoReg w1 _ _ _ _ _ _
  · exact vaNoNodes w1 _ _ _ _ _ _
  · exact vaNoHeads w1 _ _ _ _ _
theorem validate1 (w : World) (ga ca n ct gx cx gr cr en : Nat) (At : Option Addr) (wd id nm : ByteArray) (hc : 1 ≤ ca) (hw : nmB wd = true) (h0 : w.cell? ⟨ga, 0, none⟩ = some (.string wd)) (h1 : w.cell? ⟨ga, 1, none⟩ = some (.bool false))
    (hn : n ≤ 100) (hT : TokR w At n) (hid : nmB id = true) (hx : OneText w gx id n) (hnm : nmB nm = true) (hen : 1 ≤ en ∧ en ≤ n)
    (r0 : w.cell? ⟨gr, 0, none⟩ = some (.string nm)) (r1 : w.cell? ⟨gr, 1, none⟩ = some (.int .i64 0)) (r2 : w.cell? ⟨gr, 2, none⟩ = some (.int .i64 en)) (r3 : w.cell? ⟨gr, 3, none⟩ = some (.slice none 0 0)) :
    Calls Tryz.prog 27 #[.agg #[.slice (some ⟨ga, 0, none⟩) 1 ca, .slice At n ct, .slice (some ⟨gx, 0, none⟩) 1 cx, .slice (some ⟨gr, 0, none⟩) 1 cr, .slice none 0 0, .slice none 0 0, .slice none 0 0]] w fun r w' => r = .returned (.tuple #[.int .i64 0, .int .i64 0, .int .i64 0]) ∧ Below w.heap.size w w' := by
  refine validate w _ _ _ _ _ _ _ ?_
  intro i hi w1 hb
  have e0 := (hb.cell (World.block_lt_of_cell? w _ h0)).trans h0
  have e1 := (hb.cell (World.block_lt_of_cell? w _ h1)).trans h1
  have hx1 := hx.below hb hx.lt
  have s0 := (hb.cell (World.block_lt_of_cell? w _ r0)).trans r0
  have s1 := (hb.cell (World.block_lt_of_cell? w _ r1)).trans r1
  have s2 := (hb.cell (World.block_lt_of_cell? w _ r2)).trans r2
  have s3 := (hb.cell (World.block_lt_of_cell? w _ r3)).trans r3
  have hT1 : TokR w1 At n := fun i hi => by
    obtain ⟨gt, gi, ci, si, a, b, c, d⟩ := hT i hi
    exact ⟨gt, gi, ci, si, a, (hb.cell (World.block_lt_of_cell? w _ b)).trans b, (hb.cell (World.block_lt_of_cell? w _ c)).trans c, d⟩
  obtain rfl | rfl | rfl | rfl | rfl | rfl : i = 0 ∨ i = 1 ∨ i = 2 ∨ i = 3 ∨ i = 4 ∨ i = 5 := by omega
  · exact vaAttributes w1 ga ca _ _ _ _ _ _ wd false hc hw e0 e1
  · exact vaTokens w1 ga ca n ct At _ _ _ _ _ wd hn e0 e1 hT1
  · exact vaText w1 gx cx n ct At _ _ _ _ _ id (by omega) hid hx1.h0 hx1.h1 hx1.h2 hx1.h3
  · exact vaReg w1 gx cx n gr cr en _ _ _ _ _ id nm hen hx1 hnm s0 s1 s2 s3
  · exact vaNoNodes w1 _ _ _ _ _ _
  · exact vaNoHeads w1 _ _ _ _ _
theorem checkAttr (w : World) (ga ca : Nat) (wd : ByteArray) (hc : 1 ≤ ca) (hw : nmB wd = true) (h0 : w.cell? ⟨ga, 0, none⟩ = some (.string wd)) (h1 : w.cell? ⟨ga, 1, none⟩ = some (.bool false)) :
    Calls Tryz.prog 39 #[.slice (some ⟨ga, 0, none⟩) 1 ca] w fun r w' => r = .returned (.bool true) ∧ Below w.heap.size w w' := by
  have cv := validate0 w ga ca wd hc hw h0 h1
  clear hw h0 h1 hc
  go_enter Tryz.func39, Tryz.ntmps39
  go_wp2_with fail
  refine cv.mono ?_
  rintro r w1 ⟨rfl, hb⟩
  go_wp2
  go_ret
  exact ⟨rfl, hb⟩
end Go.Proofs.YthjcmodhleoocaaGreatDoor.Z
/- ZSortReg -/
namespace Go.Proofs.YthjcmodhleoocaaGreatDoor.Z
open Go Go.RowKit Go.Lib
set_option linter.unusedVariables false
set_option linter.unusedSimpArgs false
theorem news_new (w : World) (cs : Array Value) (t : TypeId) {n : Nat} (hn : n = w.heap.size) : ∀ j u, cs.toList[j]? = some u → (w.alloc (.cells cs t)).cell? ((⟨n, 0, none⟩ : Addr).add j) = some u := by
  subst hn
  exact World.news_of_block (blk_new w (.cells cs t))
theorem app_nil (ty : TypeId) (w : World) : (Builtin.append_ #[76, 76] ty #[.slice none 0 0, .slice none 0 0]).run Tryz.prog w = .ok (.slice none 0 0) w := app0 el76 ty none none 0 0 0 (Nat.le_refl _) w
theorem copyNone (w : World) : Calls Tryz.prog 97 #[.slice none 0 0] w fun r w' => r = .returned (.slice none 0 0) ∧ w' = w := by
  have hap := app_nil
  go_enter Tryz.func97, Tryz.ntmps97
  go_wp2
  go_ret
  exact ⟨rfl, rfl⟩
set_option maxRecDepth 100000 in
set_option maxHeartbeats 4000000 in
theorem copyReg (nm : ByteArray) (en : Nat) (hen : en ≤ 100) (w : World) : Calls Tryz.prog 69 #[.agg #[.string nm, .int .i64 0, .int .i64 en, .slice none 0 0], .int .i64 0] w fun r w' => r = .returned (.agg #[.string nm, .int .i64 0, .int .i64 en, .slice none 0 0]) ∧ Below w.heap.size w w' := by
  have hb1 : Below w.heap.size w ((w.alloc (.cells #[.string nm, .int .i64 0, .int .i64 en, .slice none 0 0] 78)).alloc (.cells #[.string ⟨#[]⟩, .int .i64 0, .int .i64 0, .slice none 0 0] 78)) := ((Below.refl _ w).alloc (Nat.le_refl _) _).alloc (by simp) _
  go_enter Tryz.func69, Tryz.ntmps69
  go_wp2
  have ha : ((w.alloc (.cells #[.string nm, .int .i64 0, .int .i64 en, .slice none 0 0] 78)).alloc (.cells #[.string ⟨#[]⟩, .int .i64 0, .int .i64 0, .slice none 0 0] 78)).heap[w.heap.size]? = some (.cells #[.string nm, .int .i64 0, .int .i64 en, .slice none 0 0] 78 (0, 0)) := blk_alloc (blk_new w _) _
  have hr : ((w.alloc (.cells #[.string nm, .int .i64 0, .int .i64 en, .slice none 0 0] 78)).alloc (.cells #[.string ⟨#[]⟩, .int .i64 0, .int .i64 0, .slice none 0 0] 78)).heap[w.heap.size + 1]? = some (.cells #[.string ⟨#[]⟩, .int .i64 0, .int .i64 0, .slice none 0 0] 78 (0, 0)) := by simpa using blk_new (w.alloc (.cells #[.string nm, .int .i64 0, .int .i64 en, .slice none 0 0] 78)) (.cells #[.string ⟨#[]⟩, .int .i64 0, .int .i64 0, .slice none 0 0] 78)
  obtain ⟨ba, hba⟩ : ∃ ba, ba = w.heap.size := ⟨_, rfl⟩
  obtain ⟨br, hbr⟩ : ∃ br, br = w.heap.size + 1 := ⟨_, rfl⟩
  rw [← hbr, ← hba]
  rw [← hbr] at hr
  rw [← hba] at ha
  have hge : w.heap.size ≤ br := by omega
  clear hba hbr
  generalize ((w.alloc (.cells #[.string nm, .int .i64 0, .int .i64 en, .slice none 0 0] 78)).alloc (.cells #[.string ⟨#[]⟩, .int .i64 0, .int .i64 0, .slice none 0 0] 78)) = w2 at *
  have hw0 : IntKind.i64.wrap 0 = 0 := rfl
  have hwe : IntKind.i64.wrap (en : Int) = en := IntWalk.i64_in _ (by omega)
  refine T_start (fun w' : World => w'.cell? ⟨ba, 0, none⟩ = some (.string nm) ∧ w'.cell? ⟨ba, 1, none⟩ = some (.int .i64 0) ∧ w'.cell? ⟨ba, 2, none⟩ = some (.int .i64 en) ∧ w'.cell? ⟨ba, 3, none⟩ = some (.slice none 0 0)) 14 (n := 15) (by kernel_rfl) rfl rfl ?_
  have hS : (fun w' : World => w'.cell? ⟨ba, 0, none⟩ = some (.string nm) ∧ w'.cell? ⟨ba, 1, none⟩ = some (.int .i64 0) ∧ w'.cell? ⟨ba, 2, none⟩ = some (.int .i64 en) ∧ w'.cell? ⟨ba, 3, none⟩ = some (.slice none 0 0)) w2.drew := ⟨blk_cell ha 0, blk_cell ha 1, blk_cell ha 2, blk_cell ha 3⟩
  simp only [Array.replicate_succ, Array.replicate_zero, List.push_toArray, List.nil_append, List.cons_append]
  refine tk 0 5 (by kernel_rfl) hS (h := ?_)
  refine tk 1 6 (by kernel_rfl) hS (h := ?_)
  refine tk 2 7 (by kernel_rfl) hS (h := ?_)
  refine tk 3 8 (by kernel_rfl) hS (h := ?_)
  refine tk 4 9 (by kernel_rfl) hS (h := ?_)
  refine tk 5 10 (by kernel_rfl) hS (h := ?_)
  refine tk 6 11 (by kernel_rfl) hS (h := ?_)
  refine tk 7 12 (by kernel_rfl) hS (h := ?_)
  refine tk 8 13 (by kernel_rfl) hS (h := ?_)
  refine tk 9 14 (by kernel_rfl) hS (h := ?_)
  refine tk 10 15 (by kernel_rfl) hS (h := ?_)
  refine tk 11 16 (by kernel_rfl) hS (h := ?_)
  refine one 12 (h := ?_)
  intro K hK
  go_simp
  refine (copyNone _).mono ?_
  rintro r w3 ⟨rfl, rfl⟩
  refine hK _ _ (fun _ => hS) ?_
  clear hK K
  try simp only [Act.put, List.setIfInBounds_toArray, List.set_cons_zero, List.set_cons_succ]
  refine tk 13 18 (by kernel_rfl) hS (h := ?_)
  refine one 14 (h := ?_)
  intro K hK
  have c0 := blk_cell hr 0
  have c1 := blk_cell hr 1
  have c2 := blk_cell hr 2
  have c3 := blk_cell hr 3
  have c4 := blk_frozen hr 0
  have c5 := blk_frozen hr 1
  have c6 := blk_frozen hr 2
  have c7 := blk_frozen hr 3
  simp at c0 c1 c2 c3
  go_simp
  refine hK _ _ (fun h => absurd rfl h) (T_done ?_)
  clear hK K
  go_wp2
  have hf := blk_put (blk_put (blk_put (blk_put hr 0 (.string nm) rfl) 1 (.int .i64 0) rfl) 2 (.int .i64 en) rfl) 3 (.slice none 0 0) rfl
  have z0 := blk_cell hf 0
  have z1 := blk_cell hf 1
  have z2 := blk_cell hf 2
  have z3 := blk_cell hf 3
  simp at z0 z1 z2 z3
  have hbf := (((hb1.setCell (p := ⟨br, 0, none⟩) hge (.string nm)).setCell (p := ⟨br, 1, none⟩) hge (.int .i64 0)).setCell (p := ⟨br, 2, none⟩) hge (.int .i64 en)).setCell (p := ⟨br, 3, none⟩) hge (.slice none 0 0)
  exact bodyPost_ret (v := .agg #[.string nm, .int .i64 0, .int .i64 en, .slice none 0 0]) (by simp [results, Tryz.results69, go_sem, z0, z1, z2, z3]) rfl ⟨rfl, hbf.drew⟩
set_option maxRecDepth 100000 in
set_option maxHeartbeats 4000000 in
theorem sortReg (g c en : Nat) (nm : ByteArray) (hen : en ≤ 100) (w : World) (h0 : w.cell? ⟨g, 0, none⟩ = some (.string nm)) (h1 : w.cell? ⟨g, 1, none⟩ = some (.int .i64 0)) (h2 : w.cell? ⟨g, 2, none⟩ = some (.int .i64 en)) (h3 : w.cell? ⟨g, 3, none⟩ = some (.slice none 0 0)) :
    Calls Tryz.prog 43 #[.slice (some ⟨g, 0, none⟩) 1 c] w fun r w' => (∃ v, r = .returned v ∧ w'.ownsRow w.heap.size 78 4 v 1 [.string nm, .int .i64 0, .int .i64 en, .slice none 0 0]) ∧ Below w.heap.size w w' := by
  go_enter Tryz.func43, Tryz.ntmps43
  go_wp2
  go_loopg [3, 9] 1 (fun q u v w' => (q = 1 ∧ u = .slice none 0 0 ∧ v = .int .i64 0 ∧ w' = w) ∨ (q = 0 ∧ v = .int .i64 1 ∧ w'.ownsRow w.heap.size 78 4 u 1 [.string nm, .int .i64 0, .int .i64 en, .slice none 0 0] ∧ Below w.heap.size w w'))
  case atStart => exact .inl ⟨rfl, rfl, rfl, rfl⟩
  case round =>
    rcases hrel with ⟨rfl, rfl, rfl, rfl⟩ | ⟨rfl, rfl, ho, hb⟩
    · go_wp2
      go_loopg [6] 0 (fun q v6 w' => v6 = .int .i64 0 ∧ w' = wr.alloc (.cells #[.string nm, .int .i64 0, .int .i64 en, .slice none 0 0] 78))
      case atStart => exact ⟨rfl, rfl⟩
      case round =>
        obtain ⟨rfl, rfl⟩ := hrel
        go_wp2
        go_quiet (fail)
        go_wp2_with (at_builtin; go_loud (refine app el25 rfl _ _ rfl wr.heap.size rfl (World.ownsRow_nil _ _ _ _) ⟨_, 0, none⟩ 1 1 [.string ⟨#[]⟩, .int .i64 0, .int .i64 0, .slice none 0 0] rfl rfl (news_new _ _ _ (by simp)) (fun u hu => by simp at hu; rcases hu with rfl | rfl | rfl | rfl <;> rfl) (by omega) (by simp; omega) ?_); intro v' w' h7 h8)
        rcases h7.2 with ⟨_, e0⟩ | ⟨g', cap, cur, rfl, hg', hh, hc1, hc2, hc3, hc4⟩
        · cases e0
        have hcp := copy0 el25
        have hb0 : Below wr.heap.size wr w' := ((bdrewN ((Below.refl _ _).alloc (Nat.le_refl _) _) _).alloc (by simp) _).grown h8 (by simp; omega) (fun k hk => nomatch hk)
        have hp : w'.heap[wr.heap.size]? = some (.cells #[.string nm, .int .i64 0, .int .i64 en, .slice none 0 0] 78 (0, 0)) := (h8.block _ (by simp; omega) (fun e => nomatch e)).trans (blk_alloc (blk_drewN (blk_new wr _) _) _)
        have p0 := blk_cell hp 0
        have p1 := blk_cell hp 1
        have p2 := blk_cell hp 2
        have p3 := blk_cell hp 3
        simp at p0 p1 p2 p3
        have w1 : IntKind.i64.wrap 1 = 1 := rfl
        by_cases hcap : cap = 1
        · subst hcap
          go_region
          go_wp2_with fail
          refine (copyReg nm en hen _).mono ?_
          rintro r w5 ⟨rfl, hb5⟩
          have h9 := own_move h7 (fun k hk => hb5.block k (h7.lt k hk).2)
          have hb6 : Below wr.heap.size wr w5 := hb0.drew.trans (hb5.mono hb0.size)
          have q0 := h9.cellAt 0 (by omega)
          have q1 := h9.cellAt 1 (by omega)
          have q2 := h9.cellAt 2 (by omega)
          have q3 := h9.cellAt 3 (by omega)
          have f0 := h9.frozenAt 0
          have f1 := h9.frozenAt 1
          have f2 := h9.frozenAt 2
          have f3 := h9.frozenAt 3
          simp at q0 q1 q2 q3
          have hA := ((((h9.stored 0 (.string nm)).1.stored 1 (.int .i64 0)).1.stored 2 (.int .i64 en)).1.stored 3 (.slice none 0 0)).1
          have hB := (((hb6.setCell (p := ⟨g', 0, none⟩) hg' (.string nm)).setCell (p := ⟨g', 1, none⟩) hg' (.int .i64 0)).setCell (p := ⟨g', 2, none⟩) hg' (.int .i64 en)).setCell (p := ⟨g', 3, none⟩) hg' (.slice none 0 0)
          go_wp2
          go_roundg 0
          case measure => omega
          case rel => exact .inr ⟨rfl, rfl, hA, hB⟩
        · have hcap' : ¬ 1 = cap := fun h => hcap h.symm
          have hc5 : (1 : Int) ≤ cap := by omega
          go_region
          go_wp2_with fail
          refine (copyReg nm en hen _).mono ?_
          rintro r w5 ⟨rfl, hb5⟩
          have h9 := own_move h7 (fun k hk => hb5.block k (h7.lt k hk).2)
          have hb6 : Below wr.heap.size wr w5 := hb0.drew.trans (hb5.mono hb0.size)
          have q0 := h9.cellAt 0 (by omega)
          have q1 := h9.cellAt 1 (by omega)
          have q2 := h9.cellAt 2 (by omega)
          have q3 := h9.cellAt 3 (by omega)
          have f0 := h9.frozenAt 0
          have f1 := h9.frozenAt 1
          have f2 := h9.frozenAt 2
          have f3 := h9.frozenAt 3
          simp at q0 q1 q2 q3
          have hA := ((((h9.stored 0 (.string nm)).1.stored 1 (.int .i64 0)).1.stored 2 (.int .i64 en)).1.stored 3 (.slice none 0 0)).1
          have hB := (((hb6.setCell (p := ⟨g', 0, none⟩) hg' (.string nm)).setCell (p := ⟨g', 1, none⟩) hg' (.int .i64 0)).setCell (p := ⟨g', 2, none⟩) hg' (.int .i64 en)).setCell (p := ⟨g', 3, none⟩) hg' (.slice none 0 0)
          go_wp2
          go_roundg 0
          case measure => omega
          case rel => exact .inr ⟨rfl, rfl, hA, hB⟩
    · go_wp2
      go_ret
      exact ⟨⟨_, rfl, ho⟩, hb⟩
end Go.Proofs.YthjcmodhleoocaaGreatDoor.Z
