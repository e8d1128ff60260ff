/- The law's own first line: what the document fixes, a table answers. No condition. -/
import Derived.Test.YtohnfjincfippaaTabR
namespace Go.Proofs.Ytohnfjincfippaa
open Go.RowKit Go.Maps MapI
set_option linter.unusedVariables false

theorem same_one {w : World} {g1 g2 c1 c2 : Nat} {a b c : Int} (h10 : w.cell? ⟨g1, 0, none⟩ = some (.int .i64 a)) (h11 : w.cell? ⟨g1, 1, none⟩ = some (.int .i64 b)) (h12 : w.cell? ⟨g1, 2, none⟩ = some (.int .i64 c))
    (h20 : w.cell? ⟨g2, 0, none⟩ = some (.int .i64 a)) (h21 : w.cell? ⟨g2, 1, none⟩ = some (.int .i64 b)) (h22 : w.cell? ⟨g2, 2, none⟩ = some (.int .i64 c)) :
    Calls Try.prog 15 #[.slice (some ⟨g1, 0, none⟩) 1 c1, .slice (some ⟨g2, 0, none⟩) 1 c2] w fun r w' => r = .returned (.bool true) ∧ Below w.heap.size w w' := by
  go_enter Try.func15, Try.ntmps15
  go_wp2
  refine wp_loop_rounds 2 ?_
  rw [rounds_succ]
  go_wp2
  go_quiet (fail)
  go_wp2
  rw [rounds_succ]
  go_wp2
  go_ret
  exact ⟨rfl, pw_below_drewN' (Below.refl _ _) _⟩
def am1 : Txs := [(1, ⟨1, 0, 0, 0, []⟩)]
def am2 : Txs := [(1, ⟨1, 128, 128, 0, []⟩)]
def am3 : Txs := [(1, ⟨1, 128, 128, 1, []⟩)]
def am4 : Txs := [(1, ⟨1, 128, 128, 1, [(128, 1)]⟩)]
def am5 : Txs := [(1, ⟨1, 128, 160, 1, [(128, 1)]⟩)]
def am6 : Txs := [(1, ⟨1, 128, 160, 2, [(128, 1)]⟩)]
theorem wf1 : (Lit.int .i64 1).wf = true := by decide
theorem aw1 {w : World} {B tb : Nat} (h : TabAt w B tb []) (hB : B ≤ w.heap.size) : Calls Try.prog 6 #[ptr tb, .int .i64 1] w fun r w' => r = .returned (.int .i64 0) ∧ TabAt w' B tb am1 ∧ Below B w w' := begin_calls h hB wf1
theorem aw2 {w : World} {B tb : Nat} (h : TabAt w B tb am1) (hB : B ≤ w.heap.size) : Calls Try.prog 7 #[ptr tb, .int .i64 1, .int .i64 128] w fun r w' => r = .returned (.int .i64 0) ∧ TabAt w' B tb am2 ∧ Below B w w' := log_calls h hB wf1
theorem aw3 {w : World} {B tb : Nat} (h : TabAt w B tb am2) (hB : B ≤ w.heap.size) : Calls Try.prog 11 #[ptr tb, .int .i64 1, .int .i64 1] w fun r w' => r = .returned (.int .i64 0) ∧ TabAt w' B tb am3 ∧ Below B w w' := left_one (x := ⟨1, 128, 128, 0, []⟩) h hB wf1 rfl (by decide) (by decide)
theorem aw4 {w : World} {B tb : Nat} (h : TabAt w B tb am3) (hB : B ≤ w.heap.size) : Calls Try.prog 12 #[ptr tb, .int .i64 1, .int .i64 1] w fun r w' => r = .returned (.tuple #[.int .i64 0, .int .i64 0]) ∧ TabAt w' B tb am4 ∧ Below B w w' := mark_first (x := ⟨1, 128, 128, 1, []⟩) h hB wf1 rfl rfl
theorem aw5 {w : World} {B tb : Nat} (h : TabAt w B tb am4) (hB : B ≤ w.heap.size) : Calls Try.prog 7 #[ptr tb, .int .i64 1, .int .i64 160] w fun r w' => r = .returned (.int .i64 0) ∧ TabAt w' B tb am5 ∧ Below B w w' := log_calls h hB wf1
theorem aw6 {w : World} {B tb : Nat} (h : TabAt w B tb am5) (hB : B ≤ w.heap.size) : Calls Try.prog 11 #[ptr tb, .int .i64 1, .int .i64 1] w fun r w' => r = .returned (.int .i64 0) ∧ TabAt w' B tb am6 ∧ Below B w w' := left_one (x := ⟨1, 128, 160, 1, [(128, 1)]⟩) h hB wf1 rfl (by decide) (by decide)
theorem aw7 {w : World} {B tb : Nat} (h : TabAt w B tb am6) (hB : B ≤ w.heap.size) : Calls Try.prog 13 #[ptr tb] w fun r w' => r = .returned (.int .i64 3) ∧ Below w.heap.size w w' := need_calls h hB (by decide) (by decide)
theorem aw8 {w : World} {B tb : Nat} (h : TabAt w B tb am6) (hB : B ≤ w.heap.size) : Calls Try.prog 14 #[ptr tb, .int .i64 1, .int .i64 0] w fun r w' => r = .returned (.tuple #[.int .i64 128, .int .i64 1, .int .i64 0]) ∧ TabAt w' B tb am6 ∧ Below B w w' := back_first (x := ⟨1, 128, 160, 2, [(128, 1)]⟩) (p := (128, 1)) h hB wf1 rfl rfl
theorem aw9 {w : World} {B tb : Nat} (h : TabAt w B tb am6) (hB : B ≤ w.heap.size) : Calls Try.prog 6 #[ptr tb, .int .i64 1] w fun r w' => r = .returned (.int .i64 9) ∧ TabAt w' B tb am6 ∧ Below B w w' := begin_calls h hB wf1
theorem aw10 {w : World} {B tb : Nat} (h : TabAt w B tb am6) : Calls Try.prog 9 #[ptr tb] w fun r w' => ∃ g cap, r = .returned (.slice (some ⟨g, 0, none⟩) 1 cap) ∧ w.heap.size ≤ g ∧ g < w'.heap.size ∧
    w'.cell? ⟨g, 0, none⟩ = some (.int .i64 1) ∧ w'.cell? ⟨g, 1, none⟩ = some (.int .i64 128) ∧ w'.cell? ⟨g, 2, none⟩ = some (.int .i64 160) ∧ Below w.heap.size w w' :=
  (rows_calls h (by decide)).mono fun r w' ⟨v, hr, ho, hb⟩ => by
    obtain ⟨g, cap, hv, hg1, hg2⟩ := ho.form (by decide)
    subst hv
    refine ⟨g, cap, hr, hg1, hg2, ?_, ?_, ?_, hb⟩
    · exact ho.cells (g := g) rfl 0 _ rfl
    · exact ho.cells (g := g) rfl 1 _ rfl
    · exact ho.cells (g := g) rfl 2 _ rfl

set_option maxHeartbeats 2000000 in
theorem awake_calls (w : World) : Calls Try.prog 4 #[] w fun r w' => r = .returned (.bool true) ∧ Below w.heap.size w w' := by
  go_enter Try.func4, Try.ntmps4
  go_wp2_with fail
  refine (new_calls w).mono ?_
  rintro e w1 ⟨rfl, t1, b1⟩
  have z1 := b1.size
  go_wp2_with fail
  refine (aw1 t1 (by omega)).mono ?_
  rintro e w2 ⟨rfl, t2, b2⟩
  have z2 := b2.size
  go_wp2_with fail
  refine (aw2 t2 (by omega)).mono ?_
  rintro e w3 ⟨rfl, t3, b3⟩
  have z3 := b3.size
  go_wp2_with fail
  refine (aw3 t3 (by omega)).mono ?_
  rintro e w4 ⟨rfl, t4, b4⟩
  have z4 := b4.size
  go_wp2_with fail
  refine (aw4 t4 (by omega)).mono ?_
  rintro e w5 ⟨rfl, t5, b5⟩
  have z5 := b5.size
  go_wp2_with fail
  refine (aw5 t5 (by omega)).mono ?_
  rintro e w6 ⟨rfl, t6, b6⟩
  have z6 := b6.size
  go_wp2_with fail
  refine (aw6 t6 (by omega)).mono ?_
  rintro e w7 ⟨rfl, t7, b7⟩
  have z7 := b7.size
  go_wp2_with fail
  refine (aw7 t7 (by omega)).mono ?_
  rintro e w8 ⟨rfl, b8⟩
  have z8 := b8.size
  have t8 := t7.below b8
  go_wp2_with fail
  refine (aw8 t8 (by omega)).mono ?_
  rintro e w9 ⟨rfl, t9, b9⟩
  have z9 := b9.size
  go_wp2_with fail
  refine (aw9 t9 (by omega)).mono ?_
  rintro e w10 ⟨rfl, t10, b10⟩
  have z10 := b10.size
  go_wp2_with fail
  refine (aw10 t10).mono ?_
  rintro e w11 ⟨g, cap, rfl, g1, g2, c0, c1, c2, b11⟩
  have z11 := b11.size
  go_wp2_with fail
  refine (same_one (a := 1) (b := 128) (c := 160) (by rw [World.cell?_alloc_lt _ _ _ (by exact g2)]; exact c0) (by rw [World.cell?_alloc_lt _ _ _ (by exact g2)]; exact c1) (by rw [World.cell?_alloc_lt _ _ _ (by exact g2)]; exact c2)
    (World.cell?_alloc_new _ _ _ 0) (World.cell?_alloc_new _ _ _ 1) (World.cell?_alloc_new _ _ _ 2)).mono ?_
  rintro e w12 ⟨rfl, b12⟩
  go_wp2_with fail
  go_ret
  refine ⟨rfl, ?_⟩
  have b13 : Below w.heap.size w11 w12 := ((Below.refl _ w11).alloc (by omega) _).trans (b12.mono (by simp; omega))
  exact b1.trans (b2.trans (b3.trans (b4.trans (b5.trans (b6.trans (b7.trans ((b8.mono (by omega)).trans (b9.trans (b10.trans ((b11.mono (by omega)).trans b13))))))))))
end Go.Proofs.Ytohnfjincfippaa
