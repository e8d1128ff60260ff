/- careenlaw17: awake. No condition. -/
import Derived.Test.YtepkonhgkabkcaaJawf
namespace Go.Proofs.Ytepkonhgkabkcaa
open Go.RowKit Go.Maps MapI
set_option linter.unusedVariables false
set_option linter.unusedSimpArgs false

theorem carry {W W' : World} {o : Obj} {k : Nat} {x : Obj} (b : Below (W.alloc o).heap.size (W.alloc o) W') (h : W.heap[k]? = some x) : W'.heap[k]? = some x :=
  (b.block k (by have := lt_of_block h; simp; omega)).trans ((Below.heap_alloc _ _ _ (lt_of_block h)).trans h)
theorem carryB {w W W' : World} {o : Obj} (hB : Below w.heap.size w W) (b : Below (W.alloc o).heap.size (W.alloc o) W') : Below w.heap.size w W' :=
  (hB.alloc hB.size _).trans (b.mono (by have := hB.size; simp; omega))
theorem carryC {W W' : World} {o : Obj} {a : Addr} {v : Value} (b : Below (W.alloc o).heap.size (W.alloc o) W') (h : W.cell? a = some v) : W'.cell? a = some v :=
  keepc b (by rw [World.cell?_alloc_lt _ _ _ (World.block_lt_of_cell? _ _ h)]; exact h)
def pgA : ByteArray := splice zeros 0 ⟨#[97]⟩
theorem pgA_size : pgA.size = 220 := by kernel_rfl
theorem pgA_two : (pgA.extract 0 2).toList = [97, 0] := by kernel_rfl
set_option maxHeartbeats 2000000 in
set_option maxRecDepth 100000 in
theorem awakeJ_calls (w : World) : Calls Try.prog 13 #[] w fun e w' => e = .returned (.bool true) ∧ Below w.heap.size w w' := by
  go_enter Try.func13, Try.ntmps13
  go_wp2_with fail
  go_at_call 49
  refine (pages_one (c := 2) (es := [xU, xD]) (Lst.lit (last_block _ _ _ (by simp)) rfl) okUD (by decide)).mono ?_
  rintro e w1 ⟨g1, cap1, p1, rfl, hp1, hc1, hg1, hl1, b1⟩
  have hU1 := (b1.block w.heap.size (by simp; omega)).trans ((Below.heap_alloc _ _ _ (by simp; omega)).trans ((Below.heap_alloc _ _ _ (by simp; omega)).trans ((Below.heap_alloc _ _ _ (by simp)).trans (heap_alloc_new w _))))
  have hC1 := (b1.block (w.heap.size + 1) (by simp)).trans ((Below.heap_alloc _ _ _ (by simp)).trans ((Below.heap_alloc _ _ _ (by simp)).trans (last_block (w.alloc _) _ _ (by simp))))
  have hD1 := (b1.block (w.heap.size + 1 + 1) (by simp)).trans ((Below.heap_alloc _ _ _ (by simp)).trans (last_block ((w.alloc _).alloc _) _ _ (by simp)))
  have hB1 := ((((Below.refl w.heap.size w).alloc (Nat.le_refl _) _).alloc (by simp) _).alloc (by simp; omega) _ |>.alloc (by simp; omega) _).trans (b1.mono (by simp; omega))
  have hpe : p1.data = pgA := by
    rw [pg_ud] at hp1
    injection hp1 with hp1
    injection hp1 with hp1
    rw [← hp1]; rfl
  rw [hpe]  at hc1
  clear hp1 hpe hg1 hl1 b1
  have q1 := hc1
  obtain ⟨u0, u1, u2, u3, u4, u5, u6, u7, u8, u9, u10, u11⟩ := lit12 hU1
  obtain ⟨c0, c1, c2, c3, c4, c5, c6, c7, c8, c9, c10, c11⟩ := lit12 hC1
  go_wp2_with fail
  go_at_call 15
  refine (faults_calls (c := 2) (es := [xU, xC]) (Lst.lit (last_block _ _ _ (by simp)) rfl) okUC (by decide)).mono ?_
  rintro e w2 ⟨v2, rfl, hv2, b2⟩
  rw [flt_uc] at hv2
  obtain ⟨g2, cap2, rfl, -, -⟩ := (Cut.formS (.inl hv2) (by decide))
  have hU2 := carry b2 hU1
  have hD2 := carry b2 hD1
  have hB2 := carryB hB1 b2
  have q2 := carryC b2 q1
  clear hv2 b2 u0 u1 u2 u3 u4 u5 u6 u7 u8 u9 u10 u11 c0 c1 c2 c3 c4 c5 c6 c7 c8 c9 c10 c11 q1 hc1
  obtain ⟨u0, u1, u2, u3, u4, u5, u6, u7, u8, u9, u10, u11⟩ := lit12 hU2
  obtain ⟨d0, d1, d2, d3, d4, d5, d6, d7, d8, d9, d10, d11⟩ := lit12 hD2
  go_wp2_with fail
  go_at_call 15
  refine (faults_calls (c := 2) (es := [xU, xD]) (Lst.lit (last_block _ _ _ (by simp)) rfl) okUD (by decide)).mono ?_
  rintro e w3 ⟨v3, rfl, hv3, b3⟩
  rw [flt_ud] at hv3
  obtain ⟨A3, cap3, rfl, -, -⟩ := (Cut.form (.inl hv3))
  have hU3 := carry b3 hU2
  have hD3 := carry b3 hD2
  have hB3 := carryB hB2 b3
  have q3 := carryC b3 q2
  clear hv3 b3 u0 u1 u2 u3 u4 u5 u6 u7 u8 u9 u10 u11 d0 d1 d2 d3 d4 d5 d6 d7 d8 d9 d10 d11 q2
  obtain ⟨u0, u1, u2, u3, u4, u5, u6, u7, u8, u9, u10, u11⟩ := lit12 hU3
  obtain ⟨d0, d1, d2, d3, d4, d5, d6, d7, d8, d9, d10, d11⟩ := lit12 hD3
  go_wp2_with fail
  go_at_call 50
  refine (commits_calls (c := 2) (es := [xU, xD]) (Lst.lit (last_block _ _ _ (by simp)) rfl) okUD (by decide)).mono ?_
  rintro e w4 ⟨v4, rfl, hv4, b4⟩
  rw [com_ud] at hv4
  obtain ⟨g4, cap4, rfl, -, -⟩ := (Cut.formS (.inl hv4) (by decide))
  have r4 := Cut.cells (.inl hv4) (g := g4) rfl 0 (.int .i64 1) rfl
  have hU4 := carry b4 hU3
  have hB4 := carryB hB3 b4
  have q4 := carryC b4 q3
  clear hv4 b4 u0 u1 u2 u3 u4 u5 u6 u7 u8 u9 u10 u11 d0 d1 d2 d3 d4 d5 d6 d7 d8 d9 d10 d11 q3
  go_wp2_with fail
  go_at_call 40
  refine (same_one (a := 1) (by rw [World.cell?_alloc_lt _ _ _ (World.block_lt_of_cell? _ _ r4)]; exact r4) (cell_of_block (last_block _ _ _ (by simp)) 0)).mono ?_
  rintro e w5 ⟨rfl, b5⟩
  have hU5 := carry b5 hU4
  have hB5 := carryB hB4 b5
  have q5 := carryC b5 q4
  have hps := pgA_size
  have hps1 : 2 ≤ pgA.size := by omega
  have hpt := pgA_two
  clear b5 r4 q4 hps
  obtain ⟨u0, u1, u2, u3, u4, u5, u6, u7, u8, u9, u10, u11⟩ := lit12 hU5
  go_wp2_with fail
  go_at_call 17
  refine (open_calls (c := 1) (es := [xU]) (Lst.lit (last_block _ _ _ (by simp)) rfl) ok1 (by decide)).mono ?_
  rintro e w6 ⟨v6, rfl, hv6, b6⟩
  rw [opn_u.1, opn_u.2] at hv6
  obtain ⟨g6, cap6, rfl, -, -⟩ := (Cut.formS (.inl hv6) (by decide))
  have r0 := Cut.cells (.inl hv6) (g := g6) rfl 0 (.int .i64 1) rfl
  have r1 := Cut.cells (.inl hv6) (g := g6) rfl 1 (.int .i64 128) rfl
  have r2 := Cut.cells (.inl hv6) (g := g6) rfl 2 (.int .i64 128) rfl
  have hB6 := carryB hB5 b6
  clear hv6 b6 u0 u1 u2 u3 u4 u5 u6 u7 u8 u9 u10 u11 q5
  go_wp2_with fail
  go_at_call 51
  refine (sameRows_one (a := 1) (b := 128) (c := 128) (by rw [World.cell?_alloc_lt _ _ _ (World.block_lt_of_cell? _ _ r0)]; exact r0) (by rw [World.cell?_alloc_lt _ _ _ (World.block_lt_of_cell? _ _ r1)]; exact r1) (by rw [World.cell?_alloc_lt _ _ _ (World.block_lt_of_cell? _ _ r2)]; exact r2)
    (cell_of_block (last_block _ _ _ (by simp)) 0) (cell_of_block (last_block _ _ _ (by simp)) 1) (cell_of_block (last_block _ _ _ (by simp)) 2)).mono ?_
  rintro e w7 ⟨rfl, b7⟩
  have hB7 := carryB hB6 b7
  clear b7 r0 r1 r2
  go_wp2_with fail
  go_ret
  exact ⟨rfl, hB7⟩
end Go.Proofs.Ytepkonhgkabkcaa
