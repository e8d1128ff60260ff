/- The library's slices.Repeat of one page once. No condition. -/
import Derived.Test.YtepkonhgkabkcaaJopn
namespace Go.Proofs.Ytepkonhgkabkcaa
open Go.RowKit Go.Maps MapI
set_option linter.unusedVariables false
set_option linter.unusedSimpArgs false
set_option maxHeartbeats 2000000 in
set_option maxRecDepth 100000 in
theorem mul_one_one (w : World) : Calls Try.prog 117 #[.int .u64 1, .int .u64 1] w fun e w' => e = .returned (.tuple #[.int .u64 0, .int .u64 1]) ∧ w' = w := by
  go_enter Try.func117, Try.ntmps117
  go_wp2
  go_ret2
  exact ⟨by rfl, rfl⟩
theorem infoPg : (Try.prog.info? 56).map (fun i => (i.zero, i.size, i.bytes)) = some (some (.agg #[.int .i64 0, .string ⟨#[]⟩]), 2, 24) := by kernel_rfl
theorem copy_page (W : World) (g b : Nat) (p : Pg) (u v : Value) (hg : W.heap[g]? = some (.cells #[u, v] 56 (0, 0))) (h0 : W.cell? ⟨b, 0, none⟩ = some (.int .i64 p.place)) (h1 : W.cell? ⟨b, 1, none⟩ = some (.string p.data)) (ty : TypeId) :
    (Builtin.copy_ #[63, 63] ty #[.slice (some ⟨g, 0, none⟩) 1 1, .slice (some ⟨b, 0, none⟩) 1 1]).run Try.prog W = .ok (goInt 1) ((W.setCell ⟨g, 0, none⟩ (.int .i64 p.place)).setCell ⟨g, 1, none⟩ (.string p.data)) := by
  obtain ⟨i0, hi, hz0, hz1, hz2⟩ := info_parts infoPg
  have hl := run_loadCells_list (P := Try.prog) W ⟨b, 0, none⟩ [.int .i64 p.place, .string p.data] (fun j x hj => by
    match j, hj with
    | 0, hj => simp at hj; subst hj; simpa [Addr.add] using h0
    | 1, hj => simp at hj; subst hj; simpa [Addr.add] using h1
    | j + 2, hj => simp at hj)
  have hu := Try.underlying63
  simp [Builtin.copy_, run_underlying hu, Builtin.lenOf, Builtin.firstCells, sizeOf, typeInfo, hi, hz1]
  have hl' : Sem.run Try.prog (loadCells ⟨b, 0, none⟩ 2) W = .ok #[.int .i64 p.place, .string p.data] W := hl
  have c0 : W.cell? ⟨g, 0, none⟩ = some u := (cell_of_block hg 0).trans rfl
  have c1 : W.cell? ⟨g, 1, none⟩ = some v := (cell_of_block hg 1).trans rfl
  have f0 : W.frozen? ⟨g, 0, none⟩ = false := frozen_of_block hg 0
  have f1 : W.frozen? ⟨g, 1, none⟩ = false := frozen_of_block hg 1
  have s0 : (store ⟨g, 0, none⟩ (.int .i64 p.place)).run Try.prog W = .ok () (W.setCell ⟨g, 0, none⟩ (.int .i64 p.place)) := by
    rw [run_store Try.prog W _ _ _ rfl, c0]; simp [f0]
  have hg1 := setCell_block W g 0 (.int .i64 p.place) hg
  have c1' : (W.setCell ⟨g, 0, none⟩ (.int .i64 p.place)).cell? ⟨g, 1, none⟩ = some v := (cell_of_block hg1 1).trans rfl
  have f1' : (W.setCell ⟨g, 0, none⟩ (.int .i64 p.place)).frozen? ⟨g, 1, none⟩ = false := frozen_of_block hg1 1
  have s1 : (store ⟨g, 1, none⟩ (.string p.data)).run Try.prog (W.setCell ⟨g, 0, none⟩ (.int .i64 p.place)) = .ok () ((W.setCell ⟨g, 0, none⟩ (.int .i64 p.place)).setCell ⟨g, 1, none⟩ (.string p.data)) := by
    rw [run_store Try.prog _ _ _ _ rfl, c1']; simp [f1']
  rw [hl']
  simp [Result.andThen, storeCells, Addr.add, s0, s1]
theorem make_page (w : World) : (Instr.makeSlice 63 (.int .i64 1) (.int .i64 1)).run Try.prog w = .ok (.slice (some ⟨w.heap.size, 0, none⟩) 1 1) (w.alloc (.cells #[.int .i64 0, .string ⟨#[]⟩] 56)) := by kernel_rfl
set_option maxHeartbeats 2000000 in
set_option maxRecDepth 100000 in
theorem repeat_one {w : World} {b : Nat} {p : Pg} (h0 : w.cell? ⟨b, 0, none⟩ = some (.int .i64 p.place)) (h1 : w.cell? ⟨b, 1, none⟩ = some (.string p.data)) :
    Calls Try.prog 85 #[.slice (some ⟨b, 0, none⟩) 1 1, .int .i64 1] w fun e w' => e = .returned (.slice (some ⟨w.heap.size, 0, none⟩) 1 1) ∧ w'.heap[w.heap.size]? = some (.cells #[.int .i64 p.place, .string p.data] 56 (0, 0)) ∧ Below w.heap.size w w' := by
  have hmk := make_page w
  have g0 : (w.alloc (.cells #[.int .i64 0, .string ⟨#[]⟩] 56)).cell? ⟨b, 0, none⟩ = some (.int .i64 p.place) := by rw [World.cell?_alloc_lt _ _ _ (World.block_lt_of_cell? _ _ h0)]; exact h0
  have g1 : (w.alloc (.cells #[.int .i64 0, .string ⟨#[]⟩] 56)).cell? ⟨b, 1, none⟩ = some (.string p.data) := by rw [World.cell?_alloc_lt _ _ _ (World.block_lt_of_cell? _ _ h1)]; exact h1
  have hcp := copy_page (w.alloc (.cells #[.int .i64 0, .string ⟨#[]⟩] 56)) w.heap.size b p _ _ (heap_alloc_new _ _) g0 g1 3
  go_enter Try.func85, Try.ntmps85
  go_wp2_with (first | (go_at_call 117; refine (mul_one_one _).mono ?_; rintro e w3 ⟨rfl, rfl⟩))
  refine wp_loop_rounds 1 ?_
  rw [rounds_succ]
  go_wp2_with fail
  go_ret
  refine ⟨rfl, ?_, ?_⟩
  · exact heap_alloc_new _ _
  · exact (Below.refl _ _).alloc (Nat.le_refl _) _
end Go.Proofs.Ytepkonhgkabkcaa
