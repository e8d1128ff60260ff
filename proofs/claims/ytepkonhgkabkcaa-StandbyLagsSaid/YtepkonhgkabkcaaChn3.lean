/- Package chain: at. Condition: the list reads as entries that rise. -/
import Derived.Test.YtepkonhgkabkcaaChn2
namespace Go.Proofs.Ytepkonhgkabkcaa
open Go.RowKit Go.Maps MapI
set_option linter.unusedVariables false
set_option linter.unusedSimpArgs false

theorem blk_of (w : World) (o : Obj) {w1 : World} (b : Below (w.alloc o).heap.size (w.alloc o) w1) : w1.heap[w.heap.size]? = some o := (b.block _ (by simp)).trans (heap_alloc_new w o)
/-- Eleven cells of a block are written. -/
def sets11 (W : World) (b : Nat) (v0 v1 v2 v3 v4 v5 v6 v7 v8 v9 v10 : Value) : World :=
  ((((((((((W.setCell ⟨b, 0, none⟩ v0).setCell ⟨b, 1, none⟩ v1).setCell ⟨b, 2, none⟩ v2).setCell ⟨b, 3, none⟩ v3).setCell ⟨b, 4, none⟩ v4).setCell ⟨b, 5, none⟩ v5).setCell ⟨b, 6, none⟩ v6).setCell ⟨b, 7, none⟩ v7).setCell ⟨b, 8, none⟩ v8).setCell ⟨b, 9, none⟩ v9).setCell ⟨b, 10, none⟩ v10
theorem grown_set (W : World) (b i : Nat) (v : Value) : W.grownBy (W.setCell ⟨b, i, none⟩ v) (some b) :=
  ⟨rfl, rfl, rfl, by simp [World.setCell], fun k hk hne => Below.heap_setCell _ _ _ _ (fun e => hne (by rw [e]))⟩
theorem sets11_grown (W : World) (b : Nat) (v0 v1 v2 v3 v4 v5 v6 v7 v8 v9 v10 : Value) : W.grownBy (sets11 W b v0 v1 v2 v3 v4 v5 v6 v7 v8 v9 v10) (some b) :=
  grown_trans (grown_trans (grown_trans (grown_trans (grown_trans (grown_trans (grown_trans (grown_trans (grown_trans (grown_trans (grown_set _ _ _ _) (grown_set _ _ _ _)) (grown_set _ _ _ _)) (grown_set _ _ _ _)) (grown_set _ _ _ _)) (grown_set _ _ _ _)) (grown_set _ _ _ _)) (grown_set _ _ _ _)) (grown_set _ _ _ _)) (grown_set _ _ _ _)) (grown_set _ _ _ _)
theorem sets11_block {W : World} {b t : Nat} {z0 z1 z2 z3 z4 z5 z6 z7 z8 z9 z10 : Value} (h : W.heap[b]? = some (.cells #[z0, z1, z2, z3, z4, z5, z6, z7, z8, z9, z10] t (0, 0))) (v0 v1 v2 v3 v4 v5 v6 v7 v8 v9 v10 : Value) : (sets11 W b v0 v1 v2 v3 v4 v5 v6 v7 v8 v9 v10).heap[b]? = some (.cells #[v0, v1, v2, v3, v4, v5, v6, v7, v8, v9, v10] t (0, 0)) := by
  unfold sets11
  have h0 := setCell_block _ b 0 v0 h
  rw [show (#[z0, z1, z2, z3, z4, z5, z6, z7, z8, z9, z10] : Array Value).setIfInBounds 0 v0 = #[v0, z1, z2, z3, z4, z5, z6, z7, z8, z9, z10] from rfl] at h0
  have h1 := setCell_block _ b 1 v1 h0
  rw [show (#[v0, z1, z2, z3, z4, z5, z6, z7, z8, z9, z10] : Array Value).setIfInBounds 1 v1 = #[v0, v1, z2, z3, z4, z5, z6, z7, z8, z9, z10] from rfl] at h1
  have h2 := setCell_block _ b 2 v2 h1
  rw [show (#[v0, v1, z2, z3, z4, z5, z6, z7, z8, z9, z10] : Array Value).setIfInBounds 2 v2 = #[v0, v1, v2, z3, z4, z5, z6, z7, z8, z9, z10] from rfl] at h2
  have h3 := setCell_block _ b 3 v3 h2
  rw [show (#[v0, v1, v2, z3, z4, z5, z6, z7, z8, z9, z10] : Array Value).setIfInBounds 3 v3 = #[v0, v1, v2, v3, z4, z5, z6, z7, z8, z9, z10] from rfl] at h3
  have h4 := setCell_block _ b 4 v4 h3
  rw [show (#[v0, v1, v2, v3, z4, z5, z6, z7, z8, z9, z10] : Array Value).setIfInBounds 4 v4 = #[v0, v1, v2, v3, v4, z5, z6, z7, z8, z9, z10] from rfl] at h4
  have h5 := setCell_block _ b 5 v5 h4
  rw [show (#[v0, v1, v2, v3, v4, z5, z6, z7, z8, z9, z10] : Array Value).setIfInBounds 5 v5 = #[v0, v1, v2, v3, v4, v5, z6, z7, z8, z9, z10] from rfl] at h5
  have h6 := setCell_block _ b 6 v6 h5
  rw [show (#[v0, v1, v2, v3, v4, v5, z6, z7, z8, z9, z10] : Array Value).setIfInBounds 6 v6 = #[v0, v1, v2, v3, v4, v5, v6, z7, z8, z9, z10] from rfl] at h6
  have h7 := setCell_block _ b 7 v7 h6
  rw [show (#[v0, v1, v2, v3, v4, v5, v6, z7, z8, z9, z10] : Array Value).setIfInBounds 7 v7 = #[v0, v1, v2, v3, v4, v5, v6, v7, z8, z9, z10] from rfl] at h7
  have h8 := setCell_block _ b 8 v8 h7
  rw [show (#[v0, v1, v2, v3, v4, v5, v6, v7, z8, z9, z10] : Array Value).setIfInBounds 8 v8 = #[v0, v1, v2, v3, v4, v5, v6, v7, v8, z9, z10] from rfl] at h8
  have h9 := setCell_block _ b 9 v9 h8
  rw [show (#[v0, v1, v2, v3, v4, v5, v6, v7, v8, z9, z10] : Array Value).setIfInBounds 9 v9 = #[v0, v1, v2, v3, v4, v5, v6, v7, v8, v9, z10] from rfl] at h9
  have h10 := setCell_block _ b 10 v10 h9
  rw [show (#[v0, v1, v2, v3, v4, v5, v6, v7, v8, v9, z10] : Array Value).setIfInBounds 10 v10 = #[v0, v1, v2, v3, v4, v5, v6, v7, v8, v9, v10] from rfl] at h10
  exact h10
theorem at_close2 {w w1 W2 W3 : World} {o : Obj} {wb : Nat} {x : Obj} (hwl : wb < w.heap.size) (b1 : Below (w.alloc o).heap.size (w.alloc o) w1) (hw1 : w1.heap[wb]? = some x) (h2 : w1.grownBy W2 (some w.heap.size)) (h3 : W2.grownBy W3 (some w.heap.size)) :
    W3.heap[wb]? = some x ∧ w.grownBy W3 (some wb) := by
  have hz := b1.size
  rw [World.size_alloc] at hz
  have hg := grown_trans h2 h3
  refine ⟨(hg.block wb (by omega) (by intro e; injection e with e; omega)).trans hw1, hg.os.trans b1.os, hg.tape.trans b1.tape, hg.output.trans b1.output, by have := hg.size; omega, fun k hk hne => ?_⟩
  exact (hg.block k (by omega) (by intro e; injection e with e; omega)).trans ((b1.block k (by simp; omega)).trans (Below.heap_alloc _ _ _ hk))
theorem at_close3 {w w1 W2 W3 : World} {o : Obj} {wb : Nat} {lv : Value} {txn err : Int} {sv : Value} {N : Nat} (hwl : wb < w.heap.size) (b1 : Below (w.alloc o).heap.size (w.alloc o) w1) (hw1 : w1.heap[wb]? = some (.cells (wkCells lv txn sv 0) tWk (0, 0))) (h2 : w1.grownBy W2 (some w.heap.size)) (h3 : ((W2.drewN N).setCell ⟨wb, 3, none⟩ (.int .i64 err)).grownBy W3 (some w.heap.size)) :
    W3.heap[wb]? = some (.cells (wkCells lv txn sv err) tWk (0, 0)) ∧ w.grownBy W3 (some wb) := by
  obtain ⟨g1, g2⟩ := at_close2 hwl b1 hw1 h2 (W3 := W2.drewN N) ⟨rfl, rfl, rfl, Nat.le_refl _, fun _ _ _ => rfl⟩
  have g3 := grown_set (W2.drewN N) wb 3 (.int .i64 err)
  have g4 := grown_trans g2 g3
  have hlt := Nat.lt_of_lt_of_le hwl g4.size
  have hws := g4.size
  refine ⟨(h3.block wb hlt (by intro e; injection e with e; omega)).trans ((setCell_block _ _ _ _ g1).trans (by unfold wkCells; rfl)), h3.os.trans g4.os, h3.tape.trans g4.tape, h3.output.trans g4.output, Nat.le_trans hws h3.size, fun k hk hne => ?_⟩
  exact (h3.block k (by omega) (by intro e; injection e with e; omega)).trans (g4.block k hk hne)
theorem at_close {w w1 : World} {o : Obj} {wb : Nat} {lv : Value} {txn err : Int} {sv : Value} (hwl : wb < w.heap.size) (b1 : Below (w.alloc o).heap.size (w.alloc o) w1) (hw1 : w1.heap[wb]? = some (.cells (wkCells lv txn sv 0) tWk (0, 0))) (v0 v1 v2 v3 v4 v5 v6 v7 v8 v9 v10 : Value) :
    (sets11 (w1.setCell ⟨wb, 3, none⟩ (.int .i64 err)) w.heap.size v0 v1 v2 v3 v4 v5 v6 v7 v8 v9 v10).heap[wb]? = some (.cells (wkCells lv txn sv err) tWk (0, 0)) ∧ w.grownBy (sets11 (w1.setCell ⟨wb, 3, none⟩ (.int .i64 err)) w.heap.size v0 v1 v2 v3 v4 v5 v6 v7 v8 v9 v10) (some wb) := by
  have hz := b1.size
  rw [World.size_alloc] at hz
  have hg := sets11_grown (w1.setCell ⟨wb, 3, none⟩ (.int .i64 err)) w.heap.size v0 v1 v2 v3 v4 v5 v6 v7 v8 v9 v10
  have hs : (w1.setCell ⟨wb, 3, none⟩ (.int .i64 err)).heap.size = w1.heap.size := by simp [World.setCell]
  refine ⟨?_, hg.os.trans (b1.os), hg.tape.trans b1.tape, hg.output.trans b1.output, by have := hg.size; omega, fun k hk hne => ?_⟩
  · refine (hg.block wb (by omega) (by intro e; injection e with e; omega)).trans ((setCell_block _ _ _ _ hw1).trans ?_)
    unfold wkCells; rfl
  · have hkw : k ≠ wb := fun e => hne (by rw [e])
    refine (hg.block k (by omega) (by intro e; injection e with e; omega)).trans ((Below.heap_setCell _ _ _ _ hkw).trans ((b1.block k (by simp; omega)).trans (Below.heap_alloc _ _ _ hk)))
def zRec : Obj := .cells #[.int .i64 0, .int .i64 0, .int .i64 0, .int .i64 0, .int .i64 0, .int .i64 0, .int .i64 0, .string ⟨#[]⟩, .string ⟨#[]⟩, .slice none 0 0, .slice none 0 0] 30
def SeaNo (w : World) (e : Ending) (w' : World) : Prop := ∃ i : Int, e = .returned (.tuple #[.int .i64 i, .bool false]) ∧ Below w.heap.size w w'
def SeaYes (w : World) (es : List En) (place : Int) (r : Rc) (e : Ending) (w' : World) : Prop := ∃ (i : Nat), es[i]? = some (place, r) ∧ e = .returned (.tuple #[.int .i64 (i : Nat), .bool true]) ∧ Below w.heap.size w w'
section
variable {w : World} {A : Option Addr} {b o c wb : Nat} {es : List En} {txn place : Int} {sv : Value}
theorem search_no (hL : Lst w A b o es) (hok : ∀ x ∈ es, EnOk x) (hr : Rise es) (hlen : es.length ≤ 1000000) (hn : recAt es place = none) :
    Calls Try.prog 162 #[.slice A es.length c, .int .i64 place, .func (.func 163) #[] #[]] w (SeaNo w) :=
  (search_calls hL hok hr hlen).mono fun e w' ⟨i, hc, he, hb⟩ => by
    refine ⟨i, ?_, hb⟩
    have : foundB es place i = false := by
      unfold foundB
      cases hx : es[i]? with
      | none => rfl
      | some x =>
        by_cases e : x.1 = place
        · rw [recAt_found hr hc hx e] at hn; cases hn
        · simp [e]
    rw [he, this]
theorem search_yes {r : Rc} (hL : Lst w A b o es) (hok : ∀ x ∈ es, EnOk x) (hr : Rise es) (hlen : es.length ≤ 1000000) (hn : recAt es place = some r) :
    Calls Try.prog 162 #[.slice A es.length c, .int .i64 place, .func (.func 163) #[] #[]] w (SeaYes w es place r) :=
  (search_calls hL hok hr hlen).mono fun e w' ⟨i, hc, he, hb⟩ => by
    cases hx : es[i]? with
    | none => rw [recAt_none hr hc (fun x h => by rw [hx] at h; cases h)] at hn; cases hn
    | some x =>
      by_cases e : x.1 = place
      · rw [recAt_found hr hc hx e] at hn
        injection hn with hn
        refine ⟨i, by rw [hx, ← e, ← hn], ?_, hb⟩
        have : foundB es place i = true := by unfold foundB; rw [hx]; simp [e]
        rw [he, this]
      · rw [recAt_none hr hc (fun y h => by rw [hx] at h; injection h with h; rw [← h]; exact e)] at hn; cases hn
set_option maxHeartbeats 2000000 in
set_option maxRecDepth 100000 in
theorem at_none (hL : Lst w A b o es) (hok : ∀ x ∈ es, EnOk x) (hr : Rise es) (hlen : es.length ≤ 1000000)
    (hw : w.heap[wb]? = some (.cells (wkCells (.slice A es.length c) txn sv 0) tWk (0, 0))) (hn : recAt es place = none) :
    Calls Try.prog 137 #[.pointer (some ⟨wb, 0, none⟩), .int .i64 place] w (AtPost w wb (.slice A es.length c) txn sv (zeroR, false, 7)) := by
  have hwl := lt_of_block hw
  have w0 : w.cell? ⟨wb, 0, none⟩ = some (.slice A es.length c) := cell_of_block hw 0
  have hC := search_no (c := c) (place := place) (hL.below (((Below.refl _ w).alloc (Nat.le_refl _) zRec))) hok hr hlen hn
  unfold zRec at hC
  have HC := Lib.hid hC
  have HW := Lib.hid hw
  clear hw hn hC
  go_enter Try.func137, Try.ntmps137
  go_wp2_with fail
  refine HC.out.mono ?_
  rintro e w1 ⟨i, rfl, b1⟩
  have hz := b1.size
  rw [World.size_alloc] at hz
  have hw1 := (b1.block wb (by simp; omega)).trans ((Below.heap_alloc _ _ _ hwl).trans HW.out)
  have hr1 := blk_of w _ b1
  have f3 : w1.frozen? ⟨wb, 3, none⟩ = false := frozen_of_block hw1 3
  have c3 : w1.cell? ⟨wb, 3, none⟩ = some (.int .i64 0) := cell_of_block hw1 3
  have hne : w.heap.size ≠ wb := by omega
  have q0 : w1.cell? ⟨w.heap.size, 0, none⟩ = some (.int .i64 0) := cell_of_block hr1 0
  have q1 : w1.cell? ⟨w.heap.size, 1, none⟩ = some (.int .i64 0) := cell_of_block hr1 1
  have q2 : w1.cell? ⟨w.heap.size, 2, none⟩ = some (.int .i64 0) := cell_of_block hr1 2
  have q3 : w1.cell? ⟨w.heap.size, 3, none⟩ = some (.int .i64 0) := cell_of_block hr1 3
  have q4 : w1.cell? ⟨w.heap.size, 4, none⟩ = some (.int .i64 0) := cell_of_block hr1 4
  have q5 : w1.cell? ⟨w.heap.size, 5, none⟩ = some (.int .i64 0) := cell_of_block hr1 5
  have q6 : w1.cell? ⟨w.heap.size, 6, none⟩ = some (.int .i64 0) := cell_of_block hr1 6
  have q7 : w1.cell? ⟨w.heap.size, 7, none⟩ = some (.string ⟨#[]⟩) := cell_of_block hr1 7
  have q8 : w1.cell? ⟨w.heap.size, 8, none⟩ = some (.string ⟨#[]⟩) := cell_of_block hr1 8
  have q9 : w1.cell? ⟨w.heap.size, 9, none⟩ = some (.slice none 0 0) := cell_of_block hr1 9
  have q10 : w1.cell? ⟨w.heap.size, 10, none⟩ = some (.slice none 0 0) := cell_of_block hr1 10
  have fr := fun j => frozen_of_block hr1 j
  have HW1 := Lib.hid hw1
  have HR1 := Lib.hid hr1
  clear hw1 hr1
  go_wp2_with fail
  refine bodyPost_ret (v := .tuple #[.agg #[.int .i64 0, .int .i64 0, .int .i64 0, .int .i64 0, .int .i64 0, .int .i64 0, .int .i64 0, .string ⟨#[]⟩, .string ⟨#[]⟩, .slice none 0 0, .slice none 0 0], .bool false]) (by simp [results, Try.results137, go_sem, q0, q1, q2, q3, q4, q5, q6, q7, q8, q9, q10, hne, Ne.symm hne]) rfl ⟨rfl, at_close hwl b1 HW1.out _ _ _ _ _ _ _ _ _ _ _⟩
theorem bad_ways {r : Rc} (h : badR r txn place = true) : ((r.kind == 1) = false ∧ (r.kind == 2) = false) ∨ ((r.kind == 1) = true ∧ (r.txn != txn) = true) ∨ ((r.kind == 1) = true ∧ (r.txn != txn) = false ∧ decide (place ≤ r.prev) = true) ∨
    ((r.kind == 1) = false ∧ (r.kind == 2) = true ∧ (r.txn != txn) = true) ∨ ((r.kind == 1) = false ∧ (r.kind == 2) = true ∧ (r.txn != txn) = false ∧ decide (place ≤ r.prev) = true) ∨ ((r.kind == 1) = false ∧ (r.kind == 2) = true ∧ (r.txn != txn) = false ∧ decide (place ≤ r.prev) = false ∧ decide (place ≤ r.next) = true) := by
  unfold badR at h
  cases k1 : (r.kind == 1) <;> cases k2 : (r.kind == 2) <;> cases k3 : (r.txn != txn) <;> cases k4 : decide (place ≤ r.prev) <;> cases k5 : decide (place ≤ r.next) <;> simp_all
theorem ok_ways {r : Rc} (h : badR r txn place = false) : ((r.kind == 1) = true ∧ (r.kind == 2) = false ∧ (r.txn != txn) = false ∧ decide (place ≤ r.prev) = false) ∨ ((r.kind == 1) = false ∧ (r.kind == 2) = true ∧ (r.txn != txn) = false ∧ decide (place ≤ r.prev) = false ∧ decide (place ≤ r.next) = false) := by
  unfold badR at h
  cases k1 : (r.kind == 1)
  · cases k2 : (r.kind == 2) <;> cases k3 : (r.txn != txn) <;> cases k4 : decide (place ≤ r.prev) <;> cases k5 : decide (place ≤ r.next) <;> simp_all
  · have k2 : (r.kind == 2) = false := by have := eq_of_beq k1; rw [this]; rfl
    cases k3 : (r.txn != txn) <;> cases k4 : decide (place ≤ r.prev) <;> simp_all
set_option maxHeartbeats 4000000 in
set_option maxRecDepth 100000 in
theorem at_ok {r : Rc} (hL : Lst w A b o es) (hok : ∀ x ∈ es, EnOk x) (hr : Rise es) (hlen : es.length ≤ 1000000)
    (hw : w.heap[wb]? = some (.cells (wkCells (.slice A es.length c) txn sv 0) tWk (0, 0))) (hn : recAt es place = some r) (hb : badR r txn place = false) :
    Calls Try.prog 137 #[.pointer (some ⟨wb, 0, none⟩), .int .i64 place] w (AtPost w wb (.slice A es.length c) txn sv (r, true, 0)) := by
  have hwl := lt_of_block hw
  have w0 : w.cell? ⟨wb, 0, none⟩ = some (.slice A es.length c) := cell_of_block hw 0
  have w1' : w.cell? ⟨wb, 1, none⟩ = some (.int .i64 txn) := cell_of_block hw 1
  have hC := search_yes (c := c) (place := place) (hL.below (((Below.refl _ w).alloc (Nat.le_refl _) zRec))) hok hr hlen hn
  unfold zRec at hC
  have HC := Lib.hid hC
  have HW := Lib.hid hw
  have HN := Lib.hid hn
  clear hw hn hC
  rcases ok_ways hb with ⟨k1, k2, k3, k4⟩ | ⟨k1, k2, k3, k4, k5⟩
  all_goals
    clear hb
    go_enter Try.func137, Try.ntmps137
    go_wp2_with fail
    refine HC.out.mono ?_
    rintro e w1 ⟨i, hx, rfl, b1⟩
    have hz := b1.size
    rw [World.size_alloc] at hz
    have hlt : i < es.length := (List.getElem?_eq_some_iff.1 hx).1
    have hA := hL.addr (Lst.ne hlt)
    subst hA
    have hb := hL.lt (Lst.ne hlt)
    have hxo := hok _ (List.mem_of_getElem? hx)
    have hEn := ((hL.at_ i _ hx).of_block ((Below.heap_alloc w zRec b hb))).of_block (b1.block b (by simp; omega))
    obtain ⟨d0, d1, d2, d3, d4, d5, d6, d7, d8, d9, d10, d11⟩ := hEn.cells
    obtain ⟨A1, n1, c1, e1⟩ := hxo.rec_.tx1
    obtain ⟨A2, n2, c2, e2⟩ := hxo.rec_.pg1
    dsimp only at d0 d1 d2 d3 d4 d5 d6 d7 d8 d9 d10 d11 e1 e2
    rw [e1] at d10
    rw [e2] at d11
    have hw1 := (b1.block wb (by simp; omega)).trans ((Below.heap_alloc _ _ _ hwl).trans HW.out)
    have hr1 := blk_of w _ b1
    have f3 : w1.frozen? ⟨wb, 3, none⟩ = false := frozen_of_block hw1 3
    have c3 : w1.cell? ⟨wb, 3, none⟩ = some (.int .i64 0) := cell_of_block hw1 3
    have c1' : w1.cell? ⟨wb, 1, none⟩ = some (.int .i64 txn) := cell_of_block hw1 1
    have c0' : w1.cell? ⟨wb, 0, none⟩ = some (.slice (some ⟨b, o, none⟩) es.length c) := cell_of_block hw1 0
    have hne : w.heap.size ≠ wb := by omega
    have hne2 : w.heap.size ≠ b := by omega
    have q0 : w1.cell? ⟨w.heap.size, 0, none⟩ = some (.int .i64 0) := cell_of_block hr1 0
    have q1 : w1.cell? ⟨w.heap.size, 1, none⟩ = some (.int .i64 0) := cell_of_block hr1 1
    have q2 : w1.cell? ⟨w.heap.size, 2, none⟩ = some (.int .i64 0) := cell_of_block hr1 2
    have q3 : w1.cell? ⟨w.heap.size, 3, none⟩ = some (.int .i64 0) := cell_of_block hr1 3
    have q4 : w1.cell? ⟨w.heap.size, 4, none⟩ = some (.int .i64 0) := cell_of_block hr1 4
    have q5 : w1.cell? ⟨w.heap.size, 5, none⟩ = some (.int .i64 0) := cell_of_block hr1 5
    have q6 : w1.cell? ⟨w.heap.size, 6, none⟩ = some (.int .i64 0) := cell_of_block hr1 6
    have q7 : w1.cell? ⟨w.heap.size, 7, none⟩ = some (.string ⟨#[]⟩) := cell_of_block hr1 7
    have q8 : w1.cell? ⟨w.heap.size, 8, none⟩ = some (.string ⟨#[]⟩) := cell_of_block hr1 8
    have q9 : w1.cell? ⟨w.heap.size, 9, none⟩ = some (.slice none 0 0) := cell_of_block hr1 9
    have q10 : w1.cell? ⟨w.heap.size, 10, none⟩ = some (.slice none 0 0) := cell_of_block hr1 10
    have fr := fun j => frozen_of_block hr1 j
    have b2 : (0 : Int) ≤ (i : Int) := by omega
    have b3 : (i : Int) < (es.length : Int) := by omega
    have HW1 := Lib.hid hw1
    have HR1 := Lib.hid hr1
    have HE1 := Lib.hid e1
    have HE2 := Lib.hid e2
    clear hw1 hr1 hx hEn e1 e2
    go_wp2_with fail
    obtain ⟨W2, hW2⟩ : ∃ W2, W2 = sets11 w1 w.heap.size (.int .i64 r.kind) (.int .i64 r.txn) (.int .i64 r.page) (.int .i64 r.off) (.int .i64 r.prev) (.int .i64 r.next) (.int .i64 r.begin_) (.string r.before) (.string r.after) (.slice A1 n1 c1) (.slice A2 n2 c2) := ⟨_, rfl⟩
    have hb2 : W2.heap[w.heap.size]? = some (.cells #[.int .i64 r.kind, .int .i64 r.txn, .int .i64 r.page, .int .i64 r.off, .int .i64 r.prev, .int .i64 r.next, .int .i64 r.begin_, .string r.before, .string r.after, .slice A1 n1 c1, .slice A2 n2 c2] 30 (0, 0)) := by rw [hW2]; exact sets11_block HR1.out _ _ _ _ _ _ _ _ _ _ _
    have hg2 : w1.grownBy W2 (some w.heap.size) := by rw [hW2]; exact sets11_grown _ _ _ _ _ _ _ _ _ _ _ _ _
    unfold sets11 at hW2
    rw [← hW2]
    have g3 : W2.cell? ⟨wb, 3, none⟩ = some (.int .i64 0) := hg2.cell c3 (by intro e; injection e with e; exact hne e.symm)
    have g1 : W2.cell? ⟨wb, 1, none⟩ = some (.int .i64 txn) := hg2.cell c1' (by intro e; injection e with e; exact hne e.symm)
    have h3 : W2.frozen? ⟨wb, 3, none⟩ = false := frozen_of_block ((hg2.block wb (by omega) (by intro e; injection e with e; exact hne e.symm)).trans HW1.out) 3
    have p0 : W2.cell? ⟨w.heap.size, 0, none⟩ = some (.int .i64 r.kind) := cell_of_block hb2 0
    have p1 : W2.cell? ⟨w.heap.size, 1, none⟩ = some (.int .i64 r.txn) := cell_of_block hb2 1
    have p2 : W2.cell? ⟨w.heap.size, 2, none⟩ = some (.int .i64 r.page) := cell_of_block hb2 2
    have p3 : W2.cell? ⟨w.heap.size, 3, none⟩ = some (.int .i64 r.off) := cell_of_block hb2 3
    have p4 : W2.cell? ⟨w.heap.size, 4, none⟩ = some (.int .i64 r.prev) := cell_of_block hb2 4
    have p5 : W2.cell? ⟨w.heap.size, 5, none⟩ = some (.int .i64 r.next) := cell_of_block hb2 5
    have p6 : W2.cell? ⟨w.heap.size, 6, none⟩ = some (.int .i64 r.begin_) := cell_of_block hb2 6
    have p7 : W2.cell? ⟨w.heap.size, 7, none⟩ = some (.string r.before) := cell_of_block hb2 7
    have p8 : W2.cell? ⟨w.heap.size, 8, none⟩ = some (.string r.after) := cell_of_block hb2 8
    have p9 : W2.cell? ⟨w.heap.size, 9, none⟩ = some (.slice A1 n1 c1) := cell_of_block hb2 9
    have p10 : W2.cell? ⟨w.heap.size, 10, none⟩ = some (.slice A2 n2 c2) := cell_of_block hb2 10
    have pr := fun j => frozen_of_block hb2 j
    have HB2 := Lib.hid hb2
    clear hW2 hb2 q0 q1 q2 q3 q4 q5 q6 q7 q8 q9 q10 fr f3 c3 c1' c0' d0 d1 d2 d3 d4 d5 d6 d7 d8 d9 d10 d11
    go_quiet (fail)
    go_wp2_with fail
    refine bodyPost_ret (v := .tuple #[.agg #[.int .i64 r.kind, .int .i64 r.txn, .int .i64 r.page, .int .i64 r.off, .int .i64 r.prev, .int .i64 r.next, .int .i64 r.begin_, .string r.before, .string r.after, .slice A1 n1 c1, .slice A2 n2 c2], .bool true]) (by simp [results, Try.results137, go_sem, p0, p1, p2, p3, p4, p5, p6, p7, p8, p9, p10, hne, Ne.symm hne]) rfl ⟨by unfold Rc.val; dsimp only; rw [HE1.out, HE2.out], at_close2 hwl b1 HW1.out hg2 (grown_trans (w1 := W2.drewN _) ⟨rfl, rfl, rfl, Nat.le_refl _, fun _ _ _ => rfl⟩ (sets11_grown _ _ _ _ _ _ _ _ _ _ _ _ _))⟩
set_option maxHeartbeats 4000000 in
set_option maxRecDepth 100000 in
theorem at_bad {r : Rc} (hL : Lst w A b o es) (hok : ∀ x ∈ es, EnOk x) (hr : Rise es) (hlen : es.length ≤ 1000000)
    (hw : w.heap[wb]? = some (.cells (wkCells (.slice A es.length c) txn sv 0) tWk (0, 0))) (hn : recAt es place = some r) (hb : badR r txn place = true) :
    Calls Try.prog 137 #[.pointer (some ⟨wb, 0, none⟩), .int .i64 place] w (AtPost w wb (.slice A es.length c) txn sv (r, false, 1)) := by
  have hwl := lt_of_block hw
  have w0 : w.cell? ⟨wb, 0, none⟩ = some (.slice A es.length c) := cell_of_block hw 0
  have w1' : w.cell? ⟨wb, 1, none⟩ = some (.int .i64 txn) := cell_of_block hw 1
  have hC := search_yes (c := c) (place := place) (hL.below (((Below.refl _ w).alloc (Nat.le_refl _) zRec))) hok hr hlen hn
  unfold zRec at hC
  have HC := Lib.hid hC
  have HW := Lib.hid hw
  have HN := Lib.hid hn
  clear hw hn hC
  rcases bad_ways hb with ⟨k1, k2⟩ | ⟨k1, k3⟩ | ⟨k1, k3, k4⟩ | ⟨k1, k2, k3⟩ | ⟨k1, k2, k3, k4⟩ | ⟨k1, k2, k3, k4, k5⟩
  all_goals
    clear hb
    go_enter Try.func137, Try.ntmps137
    go_wp2_with fail
    refine HC.out.mono ?_
    rintro e w1 ⟨i, hx, rfl, b1⟩
    have hz := b1.size
    rw [World.size_alloc] at hz
    have hlt : i < es.length := (List.getElem?_eq_some_iff.1 hx).1
    have hA := hL.addr (Lst.ne hlt)
    subst hA
    have hb := hL.lt (Lst.ne hlt)
    have hxo := hok _ (List.mem_of_getElem? hx)
    have hEn := ((hL.at_ i _ hx).of_block ((Below.heap_alloc w zRec b hb))).of_block (b1.block b (by simp; omega))
    obtain ⟨d0, d1, d2, d3, d4, d5, d6, d7, d8, d9, d10, d11⟩ := hEn.cells
    obtain ⟨A1, n1, c1, e1⟩ := hxo.rec_.tx1
    obtain ⟨A2, n2, c2, e2⟩ := hxo.rec_.pg1
    dsimp only at d0 d1 d2 d3 d4 d5 d6 d7 d8 d9 d10 d11 e1 e2
    rw [e1] at d10
    rw [e2] at d11
    have hw1 := (b1.block wb (by simp; omega)).trans ((Below.heap_alloc _ _ _ hwl).trans HW.out)
    have hr1 := blk_of w _ b1
    have f3 : w1.frozen? ⟨wb, 3, none⟩ = false := frozen_of_block hw1 3
    have c3 : w1.cell? ⟨wb, 3, none⟩ = some (.int .i64 0) := cell_of_block hw1 3
    have c1' : w1.cell? ⟨wb, 1, none⟩ = some (.int .i64 txn) := cell_of_block hw1 1
    have c0' : w1.cell? ⟨wb, 0, none⟩ = some (.slice (some ⟨b, o, none⟩) es.length c) := cell_of_block hw1 0
    have hne : w.heap.size ≠ wb := by omega
    have hne2 : w.heap.size ≠ b := by omega
    have q0 : w1.cell? ⟨w.heap.size, 0, none⟩ = some (.int .i64 0) := cell_of_block hr1 0
    have q1 : w1.cell? ⟨w.heap.size, 1, none⟩ = some (.int .i64 0) := cell_of_block hr1 1
    have q2 : w1.cell? ⟨w.heap.size, 2, none⟩ = some (.int .i64 0) := cell_of_block hr1 2
    have q3 : w1.cell? ⟨w.heap.size, 3, none⟩ = some (.int .i64 0) := cell_of_block hr1 3
    have q4 : w1.cell? ⟨w.heap.size, 4, none⟩ = some (.int .i64 0) := cell_of_block hr1 4
    have q5 : w1.cell? ⟨w.heap.size, 5, none⟩ = some (.int .i64 0) := cell_of_block hr1 5
    have q6 : w1.cell? ⟨w.heap.size, 6, none⟩ = some (.int .i64 0) := cell_of_block hr1 6
    have q7 : w1.cell? ⟨w.heap.size, 7, none⟩ = some (.string ⟨#[]⟩) := cell_of_block hr1 7
    have q8 : w1.cell? ⟨w.heap.size, 8, none⟩ = some (.string ⟨#[]⟩) := cell_of_block hr1 8
    have q9 : w1.cell? ⟨w.heap.size, 9, none⟩ = some (.slice none 0 0) := cell_of_block hr1 9
    have q10 : w1.cell? ⟨w.heap.size, 10, none⟩ = some (.slice none 0 0) := cell_of_block hr1 10
    have fr := fun j => frozen_of_block hr1 j
    have b2 : (0 : Int) ≤ (i : Int) := by omega
    have b3 : (i : Int) < (es.length : Int) := by omega
    have HW1 := Lib.hid hw1
    have HR1 := Lib.hid hr1
    have HE1 := Lib.hid e1
    have HE2 := Lib.hid e2
    clear hw1 hr1 hx hEn e1 e2
    go_wp2_with fail
    obtain ⟨W2, hW2⟩ : ∃ W2, W2 = sets11 w1 w.heap.size (.int .i64 r.kind) (.int .i64 r.txn) (.int .i64 r.page) (.int .i64 r.off) (.int .i64 r.prev) (.int .i64 r.next) (.int .i64 r.begin_) (.string r.before) (.string r.after) (.slice A1 n1 c1) (.slice A2 n2 c2) := ⟨_, rfl⟩
    have hb2 : W2.heap[w.heap.size]? = some (.cells #[.int .i64 r.kind, .int .i64 r.txn, .int .i64 r.page, .int .i64 r.off, .int .i64 r.prev, .int .i64 r.next, .int .i64 r.begin_, .string r.before, .string r.after, .slice A1 n1 c1, .slice A2 n2 c2] 30 (0, 0)) := by rw [hW2]; exact sets11_block HR1.out _ _ _ _ _ _ _ _ _ _ _
    have hg2 : w1.grownBy W2 (some w.heap.size) := by rw [hW2]; exact sets11_grown _ _ _ _ _ _ _ _ _ _ _ _ _
    unfold sets11 at hW2
    rw [← hW2]
    have g3 : W2.cell? ⟨wb, 3, none⟩ = some (.int .i64 0) := hg2.cell c3 (by intro e; injection e with e; exact hne e.symm)
    have g1 : W2.cell? ⟨wb, 1, none⟩ = some (.int .i64 txn) := hg2.cell c1' (by intro e; injection e with e; exact hne e.symm)
    have h3 : W2.frozen? ⟨wb, 3, none⟩ = false := frozen_of_block ((hg2.block wb (by omega) (by intro e; injection e with e; exact hne e.symm)).trans HW1.out) 3
    have p0 : W2.cell? ⟨w.heap.size, 0, none⟩ = some (.int .i64 r.kind) := cell_of_block hb2 0
    have p1 : W2.cell? ⟨w.heap.size, 1, none⟩ = some (.int .i64 r.txn) := cell_of_block hb2 1
    have p2 : W2.cell? ⟨w.heap.size, 2, none⟩ = some (.int .i64 r.page) := cell_of_block hb2 2
    have p3 : W2.cell? ⟨w.heap.size, 3, none⟩ = some (.int .i64 r.off) := cell_of_block hb2 3
    have p4 : W2.cell? ⟨w.heap.size, 4, none⟩ = some (.int .i64 r.prev) := cell_of_block hb2 4
    have p5 : W2.cell? ⟨w.heap.size, 5, none⟩ = some (.int .i64 r.next) := cell_of_block hb2 5
    have p6 : W2.cell? ⟨w.heap.size, 6, none⟩ = some (.int .i64 r.begin_) := cell_of_block hb2 6
    have p7 : W2.cell? ⟨w.heap.size, 7, none⟩ = some (.string r.before) := cell_of_block hb2 7
    have p8 : W2.cell? ⟨w.heap.size, 8, none⟩ = some (.string r.after) := cell_of_block hb2 8
    have p9 : W2.cell? ⟨w.heap.size, 9, none⟩ = some (.slice A1 n1 c1) := cell_of_block hb2 9
    have p10 : W2.cell? ⟨w.heap.size, 10, none⟩ = some (.slice A2 n2 c2) := cell_of_block hb2 10
    have pr := fun j => frozen_of_block hb2 j
    have HB2 := Lib.hid hb2
    clear hW2 hb2 q0 q1 q2 q3 q4 q5 q6 q7 q8 q9 q10 fr f3 c3 c1' c0' d0 d1 d2 d3 d4 d5 d6 d7 d8 d9 d10 d11
    go_quiet (fail)
    go_wp2_with fail
    refine bodyPost_ret (v := .tuple #[.agg #[.int .i64 r.kind, .int .i64 r.txn, .int .i64 r.page, .int .i64 r.off, .int .i64 r.prev, .int .i64 r.next, .int .i64 r.begin_, .string r.before, .string r.after, .slice A1 n1 c1, .slice A2 n2 c2], .bool false]) (by simp [results, Try.results137, go_sem, p0, p1, p2, p3, p4, p5, p6, p7, p8, p9, p10, hne, Ne.symm hne]) rfl ⟨by unfold Rc.val; dsimp only; rw [HE1.out, HE2.out], at_close3 hwl b1 HW1.out hg2 (sets11_grown _ _ _ _ _ _ _ _ _ _ _ _ _)⟩
end
end Go.Proofs.Ytepkonhgkabkcaa
