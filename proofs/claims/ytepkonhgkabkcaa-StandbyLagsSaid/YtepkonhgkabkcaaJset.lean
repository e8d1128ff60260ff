/- Package judge: set. No condition. -/
import Derived.Test.YtepkonhgkabkcaaJud
namespace Go.Proofs.Ytepkonhgkabkcaa
open Go.RowKit Go.Maps MapI
set_option linter.unusedVariables false
set_option linter.unusedSimpArgs false

def SetPost (w : World) (b : Nat) (cs : Array Value) (t : Nat) (o : Nat) (ps : List Pg) (r : Rc) (e : Ending) (w' : World) : Prop :=
  e = .returned (.tuple #[]) ∧ w'.heap[b]? = some (.cells (setCs cs o ps r) t (0, 0)) ∧ w.grownBy w' (some b)
theorem grown_below {w w' : World} (h : Below w.heap.size w w') (row : Option Nat) : w.grownBy w' row := ⟨h.os, h.tape, h.output, h.size, fun k hk _ => h.block k hk⟩
theorem grown_trans {w w1 w2 : World} {row : Option Nat} (h : w.grownBy w1 row) (k : w1.grownBy w2 row) : w.grownBy w2 row :=
  ⟨k.os.trans h.os, k.tape.trans h.tape, k.output.trans h.output, Nat.le_trans h.size k.size, fun j hj hn => (k.block j (Nat.lt_of_lt_of_le hj h.size) hn).trans (h.block j hj hn)⟩
theorem grown_setCell (w : World) (b i : Nat) (v : Value) : w.grownBy (w.setCell ⟨b, i, none⟩ v) (some b) :=
  ⟨rfl, rfl, rfl, by simp, fun k hk hn => Below.heap_setCell _ _ _ _ (fun e => hn (by rw [e]))⟩
theorem setCell_block (w : World) (b i : Nat) (v : Value) {cs : Array Value} {t : Nat} (h : w.heap[b]? = some (.cells cs t (0, 0))) : (w.setCell ⟨b, i, none⟩ v).heap[b]? = some (.cells (cs.setIfInBounds i v) t (0, 0)) := by
  exact heap_setCell_same w b i cs t v h
theorem cell_of_block {w : World} {b : Nat} {cs : Array Value} {t : Nat} (h : w.heap[b]? = some (.cells cs t (0, 0))) (i : Nat) : w.cell? ⟨b, i, none⟩ = cs[i]? := by
  simp [World.cell?, h]
theorem frozen_of_block {w : World} {b : Nat} {cs : Array Value} {t : Nat} (h : w.heap[b]? = some (.cells cs t (0, 0))) (i : Nat) : w.frozen? ⟨b, i, none⟩ = false := by
  simp [World.frozen?, h]
theorem lt_of_block {w : World} {b : Nat} {o : Obj} (h : w.heap[b]? = some o) : b < w.heap.size := (Array.getElem?_eq_some_iff.1 h).1

theorem keepd {w w1 : World} (hb : Below w.drew.heap.size w.drew w1) {a : Addr} {v : Value} (h : w.cell? a = some v) : w1.cell? a = some v := keepc (W := w.drew) hb h
theorem keepdf {w w1 : World} (hb : Below w.drew.heap.size w.drew w1) {a : Addr} {v : Value} (h : w.cell? a = some v) (hf : w.frozen? a = false) : w1.frozen? a = false := keepf (W := w.drew) hb h hf
theorem keepa {w w1 : World} {o : Obj} (hb : Below (w.alloc o).drew.heap.size (w.alloc o).drew w1) {a : Addr} {v : Value} (h : w.cell? a = some v) : w1.cell? a = some v :=
  keepc (W := (w.alloc o).drew) hb (by rw [World.cell?_drew, World.cell?_alloc_lt _ _ _ (World.block_lt_of_cell? _ _ h)]; exact h)
theorem keepaf {w w1 : World} {o : Obj} (hb : Below (w.alloc o).drew.heap.size (w.alloc o).drew w1) {a : Addr} {v : Value} (h : w.cell? a = some v) (hf : w.frozen? a = false) : w1.frozen? a = false :=
  (hb.frozen (Nat.lt_of_lt_of_le (World.block_lt_of_cell? w a h) (by show w.heap.size ≤ (w.alloc o).heap.size; simp))).trans (by rw [World.frozen?_drew, World.frozen?_alloc_old _ _ _ (Nat.ne_of_lt (World.block_lt_of_cell? _ _ h))]; exact hf)
theorem keepn {w w1 : World} {o : Obj} (hb : Below (w.alloc o).drew.heap.size (w.alloc o).drew w1) : w1.heap[w.heap.size]? = some o :=
  (hb.block w.heap.size (by show w.heap.size < (w.alloc o).heap.size; simp)).trans (heap_alloc_new w o)
theorem set_close {w W : World} {b i : Nat} {cs : Array Value} {t : Nat} {u v : Value} (hW : W.heap[b]? = some (.cells cs t (0, 0))) (hg : w.grownBy W (some b)) :
    ((W.setCell ⟨b, i, none⟩ u).setCell ⟨b, i + 1, none⟩ v).heap[b]? = some (.cells ((cs.setIfInBounds i u).setIfInBounds (i + 1) v) t (0, 0)) ∧ w.grownBy ((W.setCell ⟨b, i, none⟩ u).setCell ⟨b, i + 1, none⟩ v) (some b) :=
  ⟨setCell_block _ _ _ _ (setCell_block _ _ _ _ hW), grown_trans (grown_trans hg (grown_setCell _ _ _ _)) (grown_setCell _ _ _ _)⟩
theorem set_alloc {w X : World} {b : Nat} {o' : Obj} (h : X.heap[b]? = some o' ∧ w.grownBy X (some b)) (o : Obj) : (X.alloc o).drew.heap[b]? = some o' ∧ w.grownBy (X.alloc o).drew (some b) := by
  obtain ⟨h1, h2⟩ := h
  refine ⟨(Below.heap_alloc _ _ _ (lt_of_block h1)).trans h1, ⟨h2.os, h2.tape, h2.output, Nat.le_trans h2.size (by show X.heap.size ≤ (X.alloc o).heap.size; simp), fun k hk hn => ?_⟩⟩
  exact (Below.heap_alloc _ _ _ (Nat.lt_of_lt_of_le hk h2.size)).trans (h2.block k hk hn)
theorem set_drew {w X : World} {b : Nat} {o' : Obj} (h : X.heap[b]? = some o' ∧ w.grownBy X (some b)) : X.drew.heap[b]? = some o' ∧ w.grownBy X.drew (some b) := ⟨h.1, h.2.os, h.2.tape, h.2.output, h.2.size, h.2.block⟩
theorem set_zero {w w1 : World} {b : Nat} {cs : Array Value} {t : Nat} (hb : w.heap[b]? = some (.cells cs t (0, 0))) (b9 : Below w.drew.heap.size w.drew w1) : w1.heap[b]? = some (.cells cs t (0, 0)) ∧ w.grownBy w1 (some b) :=
  ⟨(b9.block b (lt_of_block hb)).trans hb, b9.os, b9.tape, b9.output, b9.size, fun k hk _ => b9.block k hk⟩
theorem set_one {w w1 : World} {b : Nat} {cs : Array Value} {t : Nat} (hb : w.heap[b]? = some (.cells cs t (0, 0))) (b9 : Below w.drew.heap.size w.drew w1) (o : Obj) : (w1.alloc o).heap[b]? = some (.cells cs t (0, 0)) ∧ w.grownBy (w1.alloc o) (some b) := by
  have h1 : w.grownBy w1 none := ⟨b9.os, b9.tape, b9.output, b9.size, fun k hk _ => b9.block k hk⟩
  have hl : b < w1.heap.size := Nat.lt_of_lt_of_le (lt_of_block hb) b9.size
  refine ⟨by rw [Below.heap_alloc _ _ _ hl]; exact (b9.block b (lt_of_block hb)).trans hb, ?_⟩
  exact ⟨b9.os, b9.tape, b9.output, Nat.le_trans b9.size (by simp), fun k hk _ => by rw [Below.heap_alloc _ _ _ (Nat.lt_of_lt_of_le hk b9.size)]; exact b9.block k hk⟩
theorem set_two {w w1 : World} {b : Nat} {cs : Array Value} {t : Nat} {o : Obj} {u v : Value} (hb : w.heap[b]? = some (.cells cs t (0, 0))) (b9 : Below (w.alloc o).drew.heap.size (w.alloc o).drew w1) :
    ((w1.setCell ⟨w.heap.size, 0, none⟩ u).setCell ⟨w.heap.size, 1, none⟩ v).heap[b]? = some (.cells cs t (0, 0)) ∧ w.grownBy ((w1.setCell ⟨w.heap.size, 0, none⟩ u).setCell ⟨w.heap.size, 1, none⟩ v) (some b) := by
  have hl := lt_of_block hb
  have hk : ∀ k, k < w.heap.size → ((w1.setCell ⟨w.heap.size, 0, none⟩ u).setCell ⟨w.heap.size, 1, none⟩ v).heap[k]? = w.heap[k]? := fun k hk => by
    rw [Below.heap_setCell _ _ _ _ (Nat.ne_of_lt hk), Below.heap_setCell _ _ _ _ (Nat.ne_of_lt hk)]
    exact (b9.block k (by show k < (w.alloc o).heap.size; simp; omega)).trans (Below.heap_alloc _ _ _ hk)
  refine ⟨(hk b hl).trans hb, b9.os, b9.tape, b9.output, ?_, fun k h1 _ => hk k h1⟩
  have h2 : w.heap.size ≤ (w.alloc o).drew.heap.size := by show w.heap.size ≤ (w.alloc o).heap.size; simp
  simpa using Nat.le_trans h2 b9.size
set_option maxHeartbeats 2000000 in
theorem set_calls {w : World} {b o n c rb ro : Nat} {cs : Array Value} {t : Nat} {ps : List Pg} {r : Rc} (hn : ps.length = n) (hb : w.heap[b]? = some (.cells cs t (0, 0))) (hp : PgsIn cs o ps) (hr : RcAt w rb ro r) (hs : r.after.size ≤ 300) :
    Calls Try.prog 100 #[.slice (some ⟨b, o, none⟩) n c, .pointer (some ⟨rb, ro, none⟩)] w (SetPost w b cs t o ps r) := by
  obtain ⟨-, -, c2, c3, -, -, -, -, c8, -⟩ := hr.cells
  have hrl := World.block_lt_of_cell? w _ c2
  have hlt := lt_of_block hb
  by_cases h0 : 0 ≤ r.page
  · obtain ⟨k, hk⟩ := Int.eq_ofNat_of_zero_le h0
    have hk' : r.page.toNat = k := by omega
    cases hg : ps[k]? with
    | none =>
      have hE : setCs cs o ps r = cs := by unfold setCs; rw [if_pos h0, hk', hg]
      have hkn : n ≤ k := by rw [← hn]; exact List.getElem?_eq_none_iff.1 hg
      rw [hk] at c2
      have b1 : decide ((k : Int) < 0) = false := decide_eq_false (by omega)
      have HE := Lib.hid hE
      clear hE hg hn hp hk hk' h0
      go_enter Try.func100, Try.ntmps100
      go_wp2
      refine bodyPost_ret (results_none rfl _ _ _) rfl ?_
      exact ⟨rfl, by rw [HE.out]; exact hb, ⟨rfl, rfl, rfl, Nat.le_refl _, fun _ _ _ => rfl⟩⟩
    | some p =>
      have hkn : k < n := by rw [← hn]; exact (List.getElem?_eq_some_iff.1 hg).1
      obtain ⟨p1, p2⟩ := hp _ _ hg
      have q1 : w.cell? ⟨b, o + k * 2, none⟩ = some (.int .i64 p.place) := (cell_of_block hb _).trans p1
      have q2 : w.cell? ⟨b, o + k * 2 + 1, none⟩ = some (.string p.data) := (cell_of_block hb _).trans p2
      have f1 : w.frozen? ⟨b, o + k * 2, none⟩ = false := frozen_of_block hb _
      have f2 : w.frozen? ⟨b, o + k * 2 + 1, none⟩ = false := frozen_of_block hb _
      have b1 : decide ((k : Int) < 0) = false := decide_eq_false (by omega)
      have b2 : decide ((n : Int) ≤ (k : Int)) = false := decide_eq_false (by omega)
      have b3 : (0 : Int) ≤ (k : Int) := by omega
      have b4 : (k : Int) < (n : Int) := by omega
      have CP := Lib.hid (put_calls p r.off r.after 0)
      rw [hk] at c2
      by_cases hE : putE p r.off r.after 0 = 0
      · have hC : setCs cs o ps r = (cs.setIfInBounds (o + k * 2) (.int .i64 (putP p r.off r.after 0).place)).setIfInBounds (o + k * 2 + 1) (.string (putP p r.off r.after 0).data) := by unfold setCs; rw [if_pos h0, hk', hg]; simp only [hE, if_true]
        have HC := Lib.hid hC
        have hE' : (putE p r.off r.after 0 == 0) = true := by simpa using hE
        clear hE hC hg hn hp p1 p2 hk hk' h0
        go_enter Try.func100, Try.ntmps100
        go_wp2_with fail
        go_region_held3 (fun w' => w'.cell? ⟨b, o + k * 2, none⟩ = some (.int .i64 p.place) ∧ w'.cell? ⟨b, o + k * 2 + 1, none⟩ = some (.string p.data) ∧ w'.cell? ⟨rb, ro + 2, none⟩ = some (.int .i64 k) ∧ w'.cell? ⟨rb, ro + 3, none⟩ = some (.int .i64 r.off) ∧ w'.cell? ⟨rb, ro + 8, none⟩ = some (.string r.after)) (first | (go_keep; done) | (refine ⟨?_, ?_, ?_, ?_, ?_⟩ <;> exact keepc (by assumption) (by assumption)))
          (first | (go_at_call 82; refine (CP.out _ (by omega)).mono ?_; rintro e w1 ⟨rfl, b9⟩; first | (have k1 := keepd b9 q1; have k2 := keepd b9 q2; have k3 := keepd b9 c2; have k4 := keepd b9 c3; have k5 := keepd b9 c8; have m1 := World.new_ne w1 _ k1; have m2 := World.new_ne w1 _ k3; have m3 := m1.symm; have m4 : b < w1.heap.size := World.block_lt_of_cell? w1 _ k1; have l1 := keepdf b9 q1 f1; have l2 := keepdf b9 q2 f2) | (have k1 := keepa b9 q1; have k2 := keepa b9 q2; have k3 := keepa b9 c2; have k4 := keepa b9 c3; have k5 := keepa b9 c8; have m1 := World.new_ne w _ q1; have m2 := World.new_ne w _ c2; have m3 := m1.symm; have m4 : b < w1.heap.size := World.block_lt_of_cell? w1 _ k1; have l1 := keepaf b9 q1 f1; have l2 := keepaf b9 q2 f2; obtain ⟨y1, y2, y3, y4⟩ := page_blk (keepn b9); have y5 := lt_of_block (keepn b9))))
        all_goals
          simp only [Exit.then]
          refine (by assumption : ∀ (a : Act) (w_1 : World), _ → _) _ _ ?_
          go_wp2
          go_region
          go_wp2
        · refine bodyPost_end (results_none rfl _ _ _) rfl ?_
          rw [SetPost, HC.out]
          exact ⟨rfl, set_alloc (set_close (set_zero hb b9).1 (set_zero hb b9).2) _⟩
        · refine bodyPost_end (results_none rfl _ _ _) rfl ?_
          rw [SetPost, HC.out]
          exact ⟨rfl, set_drew (set_close (set_two hb b9).1 (set_two hb b9).2)⟩
      · have hC : setCs cs o ps r = cs := by unfold setCs; rw [if_pos h0, hk', hg]; simp only [hE, if_false]
        have HC := Lib.hid hC
        have hE' : (putE p r.off r.after 0 == 0) = false := by simpa using hE
        clear hE hC hg hn hp p1 p2 hk hk' h0
        go_enter Try.func100, Try.ntmps100
        go_wp2_with fail
        go_region_held3 (fun w' => w'.cell? ⟨b, o + k * 2, none⟩ = some (.int .i64 p.place) ∧ w'.cell? ⟨b, o + k * 2 + 1, none⟩ = some (.string p.data) ∧ w'.cell? ⟨rb, ro + 2, none⟩ = some (.int .i64 k) ∧ w'.cell? ⟨rb, ro + 3, none⟩ = some (.int .i64 r.off) ∧ w'.cell? ⟨rb, ro + 8, none⟩ = some (.string r.after)) (first | (go_keep; done) | (refine ⟨?_, ?_, ?_, ?_, ?_⟩ <;> exact keepc (by assumption) (by assumption)))
          (first | (go_at_call 82; refine (CP.out _ (by omega)).mono ?_; rintro e w1 ⟨rfl, b9⟩; first | (have k1 := keepd b9 q1; have k2 := keepd b9 q2; have k3 := keepd b9 c2; have k4 := keepd b9 c3; have k5 := keepd b9 c8; have m1 := World.new_ne w1 _ k1; have m2 := World.new_ne w1 _ k3; have m3 := m1.symm; have m4 : b < w1.heap.size := World.block_lt_of_cell? w1 _ k1; have l1 := keepdf b9 q1 f1; have l2 := keepdf b9 q2 f2) | (have k1 := keepa b9 q1; have k2 := keepa b9 q2; have k3 := keepa b9 c2; have k4 := keepa b9 c3; have k5 := keepa b9 c8; have m1 := World.new_ne w _ q1; have m2 := World.new_ne w _ c2; have m3 := m1.symm; have m4 : b < w1.heap.size := World.block_lt_of_cell? w1 _ k1; have l1 := keepaf b9 q1 f1; have l2 := keepaf b9 q2 f2; obtain ⟨y1, y2, y3, y4⟩ := page_blk (keepn b9); have y5 := lt_of_block (keepn b9))))
        all_goals
          simp only [Exit.then]
          refine (by assumption : ∀ (a : Act) (w_1 : World), _ → _) _ _ ?_
          go_wp2
        · refine bodyPost_end (results_none rfl _ _ _) rfl ?_
          rw [SetPost, HC.out]
          exact ⟨rfl, set_one hb b9 _⟩
        · refine bodyPost_end (results_none rfl _ _ _) rfl ?_
          rw [SetPost, HC.out]
          exact ⟨rfl, set_two hb b9⟩
  · have hE : setCs cs o ps r = cs := by unfold setCs; rw [if_neg h0]
    have h1 : r.page < 0 := by omega
    have HE := Lib.hid hE
    clear hE hn hp h0
    go_enter Try.func100, Try.ntmps100
    go_wp2
    refine bodyPost_ret (results_none rfl _ _ _) rfl ?_
    exact ⟨rfl, by rw [HE.out]; exact hb, ⟨rfl, rfl, rfl, Nat.le_refl _, fun _ _ _ => rfl⟩⟩
end Go.Proofs.Ytepkonhgkabkcaa
