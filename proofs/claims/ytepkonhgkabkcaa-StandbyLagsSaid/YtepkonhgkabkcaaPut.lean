/- Package page: what Get, Put and Apply answer. No condition. -/
import Derived.Test.YtepkonhgkabkcaaPage
import Derived.Lib.SlBuf
namespace Go.Proofs.Ytepkonhgkabkcaa
open Go.RowKit
set_option linter.unusedVariables false
set_option linter.unusedSimpArgs false

theorem keepc {W w1 : World} (hb : Below W.heap.size W w1) {a : Addr} {v : Value} (h : W.cell? a = some v) : w1.cell? a = some v := (hb.cell (World.block_lt_of_cell? W a h)).trans h
theorem keepf {W w1 : World} (hb : Below W.heap.size W w1) {a : Addr} {v : Value} (h : W.cell? a = some v) (hf : W.frozen? a = false) : w1.frozen? a = false := (hb.frozen (World.block_lt_of_cell? W a h)).trans hf
theorem below_then {B : Nat} {w w1 w2 : World} (h : Below B w w1) (k : Below w1.heap.size w1 w2) (hB : B ≤ w1.heap.size) : Below B w w2 := h.trans (k.mono hB)

theorem get_calls (p : Pg) (off n : Int) (w : World) (hn1 : -4611686018427387904 ≤ n) (hn2 : n ≤ 4611686018427387904) :
    Calls Try.prog 150 #[.agg #[.int .i64 p.place, .string p.data], .int .i64 off, .int .i64 n] w fun r w' => r = .returned (.tuple #[.string (getS p off n), .int .i64 (getE p off n)]) ∧ Below w.heap.size w w' := by
  by_cases hr : Right p
  · by_cases h1 : off < 0 ∨ n < 0 ∨ 220 < off + n
    · have hE : getE p off n = 2 := by unfold getE; rw [if_neg (by simpa using hr), if_pos h1]
      have hS : getS p off n = ⟨#[]⟩ := by unfold getS; rw [hE]; rfl
      have h1' : off < 0 ∨ (0 ≤ off ∧ n < 0) ∨ (0 ≤ off ∧ 0 ≤ n ∧ 220 < n) ∨ (0 ≤ off ∧ 0 ≤ n ∧ n ≤ 220 ∧ 220 - n < off) := by omega
      clear h1
      rw [hE, hS]
      clear hE hS
      rcases h1' with a | ⟨a, b⟩ | ⟨a, b, c⟩ | ⟨a, b, c, d⟩
      · go_enter Try.func150, Try.ntmps150
        go_wp2_with (go_at_call 72; refine (right_yes hr _).mono ?_; rintro e w1 ⟨rfl, b1⟩)
        go_ret2
        exact ⟨rfl, below_then ((Below.refl _ _).alloc (Nat.le_refl _) _) b1 (by simp)⟩
      · have a1 : decide (off < 0) = false := by simp; omega
        go_enter Try.func150, Try.ntmps150
        go_wp2_with (go_at_call 72; refine (right_yes hr _).mono ?_; rintro e w1 ⟨rfl, b1⟩)
        go_ret2
        exact ⟨rfl, below_then ((Below.refl _ _).alloc (Nat.le_refl _) _) b1 (by simp)⟩
      · have a1 : decide (off < 0) = false := by simp; omega
        have a2 : decide (n < 0) = false := by simp; omega
        go_enter Try.func150, Try.ntmps150
        go_wp2_with (go_at_call 72; refine (right_yes hr _).mono ?_; rintro e w1 ⟨rfl, b1⟩)
        go_ret2
        exact ⟨rfl, below_then ((Below.refl _ _).alloc (Nat.le_refl _) _) b1 (by simp)⟩
      · have a1 : decide (off < 0) = false := by simp; omega
        have a2 : decide (n < 0) = false := by simp; omega
        have a3 : decide (220 < n) = false := by simp; omega
        go_enter Try.func150, Try.ntmps150
        go_wp2_with (go_at_call 72; refine (right_yes hr _).mono ?_; rintro e w1 ⟨rfl, b1⟩)
        go_ret2
        exact ⟨rfl, below_then ((Below.refl _ _).alloc (Nat.le_refl _) _) b1 (by simp)⟩
    · have hE : getE p off n = 0 := by unfold getE; rw [if_neg (by simpa using hr), if_neg h1]
      have hS : getS p off n = p.data.extract off.toNat (off + n).toNat := by unfold getS; rw [hE]; rfl
      have a : 0 ≤ off := by omega
      have b : 0 ≤ n := by omega
      have c : n ≤ 220 := by omega
      have d : off ≤ 220 - n := by omega
      have hsz : p.data.size = 220 := hr.2.2
      have hsz1 : p.data.size ≤ 220 := by omega
      have hsz2 : 220 ≤ p.data.size := by omega
      have a1 : decide (off < 0) = false := by simp; omega
      have a2 : decide (n < 0) = false := by simp; omega
      have a3 : decide (220 < n) = false := by simp; omega
      have a4 : decide (220 - n < off) = false := by simp; omega
      clear h1 hsz
      rw [hE, hS]
      clear hE hS
      go_enter Try.func150, Try.ntmps150
      go_wp2_with (go_at_call 72; refine (right_yes hr _).mono ?_; rintro e w1 ⟨rfl, b1⟩; have k1 := keepc b1 (a := ⟨w.heap.size, 1, none⟩) (World.cell?_alloc_new _ _ _ 1))
      go_ret2
      exact ⟨rfl, below_then ((Below.refl _ _).alloc (Nat.le_refl _) _) b1 (by simp)⟩
  · have hE : getE p off n = 3 := by unfold getE; rw [if_pos hr]
    have hS : getS p off n = ⟨#[]⟩ := by unfold getS; rw [hE]; rfl
    rw [hE, hS]
    clear hE hS
    go_enter Try.func150, Try.ntmps150
    go_wp2_with (go_at_call 72; refine (right_no hr _).mono ?_; rintro e w1 ⟨rfl, b1⟩)
    go_ret2
    exact ⟨rfl, below_then ((Below.refl _ _).alloc (Nat.le_refl _) _) b1 (by simp)⟩

/-! ### bytes in a row -/
open Go.Lib (byteCells byteCells_length run_copy_row_string run_copy_empty_string)
theorem setRow_at (w : World) (g : Nat) (cs : Array Value) {c0 : Array Value} {t : TypeId} (h : w.heap[g]? = some (.cells c0 t (0, 0))) : (w.setRow g cs).heap[g]? = some (.cells cs t (0, 0)) := by
  simp only [World.setRow, Array.getElem?_modify, if_true, h, Option.map_some]
theorem setRow_grown (w : World) (g : Nat) (cs : Array Value) : w.grownBy (w.setRow g cs) (some g) :=
  ⟨rfl, rfl, rfl, by simp [World.setRow], fun k _ hk => by
    simp only [World.setRow, Array.getElem?_modify]
    rw [if_neg (fun e => hk (by rw [e]))]⟩
theorem byteCells_append (a b : List UInt8) : byteCells (a ++ b) = byteCells a ++ byteCells b := by simp [byteCells]
theorem splice_cells (d : ByteArray) (o : Nat) (s : ByteArray) : byteCells (splice d o s).data.toList = (byteCells d.data.toList).take o ++ byteCells s.data.toList ++ (byteCells d.data.toList).drop (o + s.size) := by
  simp [splice, byteCells, List.map_take, List.map_drop]
theorem splice_size {d : ByteArray} {o : Nat} {s : ByteArray} (h : o + s.size ≤ d.size) : (splice d o s).size = d.size := by
  have h1 : d.data.toList.length = d.size := rfl
  have h2 : s.data.toList.length = s.size := rfl
  show ((d.data.toList.take o ++ s.data.toList ++ d.data.toList.drop (o + s.size)).toArray).size = _
  simp only [List.size_toArray, List.length_append, List.length_take, List.length_drop]
  omega
/-- 'copy(row[o:], s)' where s fits. -/
theorem copy_row (W : World) (g o n c : Nat) (d s : ByteArray) (hn : s.size ≤ n) (hg : W.heap[g]? = some (.cells (byteCells d.data.toList).toArray 202 (0, 0))) (hle : o + s.size ≤ d.size) (ty : TypeId) :
    ∃ W', (Builtin.copy_ #[94, 9] ty #[.slice (some ⟨g, o, none⟩) n c, .string s]).run Try.prog W = .ok (goInt s.size) W' ∧ W'.heap[g]? = some (.cells (byteCells (splice d o s).data.toList).toArray 202 (0, 0)) ∧ W.grownBy W' (some g) := by
  have hd : (byteCells d.data.toList).toArray.size = d.size := by rw [List.size_toArray, byteCells_length]; rfl
  refine ⟨_, run_copy_row_string W 94 9 ty 5 g o n c s _ 202 Try.underlying94 (by kernel_rfl) hg hn (by rw [hd]; omega), ?_, setRow_grown _ _ _⟩
  rw [setRow_at _ _ _ hg, splice_cells]
theorem conv_row (W : World) (g c : Nat) (d : ByteArray) (n : Nat) (hn : d.size = n) (hg : W.heap[g]? = some (.cells (byteCells d.data.toList).toArray 202 (0, 0))) :
    (convert 94 9 (.slice (some ⟨g, 0, none⟩) n c)).run Try.prog W = .ok (.string d) W := by
  have hl : d.data.toList.length = n := hn
  have h := run_convert_bytes_arg (P := Try.prog) W 94 5 Try.underlying94 Try.underlying5 g 0 n c (d.data.toList.map fun b => (b.toNat : Int)) (by simpa using hl) (fun i hi => ?_) 9 Try.underlying9
  · rw [h]
    have : strOfNums (d.data.toList.map fun b => (b.toNat : Int)) = d := by
      have e : ((fun n : Int => UInt8.ofNat n.toNat) ∘ fun b : UInt8 => ((b.toNat : Int))) = id := by funext b; simp
      simp only [strOfNums, List.map_map, e, List.map_id]
    rw [this]
  · rw [Nat.zero_add]
    simp only [World.cell?, hg]
    simp [byteCells, List.getD_eq_getElem?_getD, List.getElem?_map, List.getElem?_eq_getElem (show i < d.data.toList.length by omega)]
theorem zeroCells_bytes : Try.zeroCells202 = (byteCells zeros.data.toList).toArray := by
  rw [zeroCells_eq]
  kernel_rfl
theorem step_copy_run {P : Program} {ops : Array Oper} {o : Oper} {a : Act} {w : World} {K : Act → World → Prop} {Q : Exit → Act → World → Prop} {E : Prop} (hgd : o.guard = none) (d s : Operand) (t t' : TypeId)
    (ho : o.op = .call { callee := .builtin .copy, args := #[d, s], argTypes := #[t, t'] }) (v u : Value) (hd : a.eval d = v) (hs : a.eval s = u) {v' : Value} {w' : World}
    (hr : (Builtin.copy_ #[t, t'] o.type #[v, u]).run P w = .ok v' w') (h : K (a.put o.dst v') w') : if Region.wanted o (yielded ops a.tmps) = true then Oper.wp P o a w K Q else E := by
  have hw : Region.wanted o (yielded ops a.tmps) = true := by simp [Region.wanted, hgd]
  rw [if_pos hw]
  exact Lib.wp_copy_run w d s t t' ho v u hd hs hr h

theorem putE_case {p : Pg} {off : Int} {s : ByteArray} {place : Int} (hr : Right p) : putE p off s place = if place < 0 ∨ 2147483647 < place then 1 else if off < 0 ∨ 220 < off + s.size then 2 else 0 := by
  unfold putE; rw [if_neg (by simpa using hr)]
theorem putP_no {p : Pg} {off : Int} {s : ByteArray} {place c : Int} (h : putE p off s place = c) (h0 : c ≠ 0) : putP p off s place = pg0 := by unfold putP; rw [if_neg (by omega)]

theorem blk_new0 (w : World) (A B : Obj) : ((w.alloc A).alloc B).heap[w.heap.size]? = some A := by
  rw [Below.heap_alloc _ _ _ (by simp)]; exact heap_alloc_new _ _
theorem blk_new1 (w : World) (A B : Obj) : ((w.alloc A).alloc B).heap[w.heap.size + 1]? = some B := by
  rw [← World.size_alloc w A]; exact heap_alloc_new _ _
theorem page_blk {w1 : World} {b : Nat} {x : Int} {s : ByteArray} {t : Nat} (h : w1.heap[b]? = some (.cells #[.int .i64 x, .string s] t (0, 0))) :
    w1.cell? ⟨b, 0, none⟩ = some (.int .i64 x) ∧ w1.cell? ⟨b, 1, none⟩ = some (.string s) ∧ w1.frozen? ⟨b, 0, none⟩ = false ∧ w1.frozen? ⟨b, 1, none⟩ = false := by
  simp [World.cell?, World.frozen?, h]

def PutPost (w : World) (q : Pg) (c : Int) (r : Ending) (w' : World) : Prop := r = .returned (.tuple #[.agg #[.int .i64 q.place, .string q.data], .int .i64 c]) ∧ Below w.heap.size w w'
theorem put_close {w w1 : World} {A B : Obj} (b1 : Below ((w.alloc A).alloc B).heap.size ((w.alloc A).alloc B) w1) {u v : Value} : Below w.heap.size w ((w1.setCell ⟨w.heap.size + 1, 0, none⟩ u).setCell ⟨w.heap.size + 1, 1, none⟩ v) :=
  Below.setCell (Below.setCell (below_then (((Below.refl _ _).alloc (Nat.le_refl _) _).alloc (by simp) _) b1 (by simp; omega)) (by simp) _) (by simp) _
set_option maxHeartbeats 1000000 in
theorem put_err (p : Pg) (off : Int) (s : ByteArray) (place : Int) (w : World) (hs : s.size ≤ 9223372036854775807) (h : putE p off s place ≠ 0) :
    Calls Try.prog 82 #[.agg #[.int .i64 p.place, .string p.data], .int .i64 off, .string s, .int .i64 place] w (PutPost w pg0 (putE p off s place)) := by
  by_cases hr : Right p
  · rw [putE_case hr] at h ⊢
    by_cases h1 : place < 0 ∨ 2147483647 < place
    · rw [if_pos h1]
      clear h
      have h1' : place < 0 ∨ (0 ≤ place ∧ 2147483647 < place) := by omega
      clear h1
      rcases h1' with a | ⟨a, b⟩
      all_goals
        go_enter Try.func82, Try.ntmps82
        go_wp2_with (go_at_call 72; refine (right_yes hr _).mono ?_; rintro e w1 ⟨rfl, b1⟩; obtain ⟨k0, k1, q0, q1⟩ := page_blk ((b1.block (w.heap.size + 1) (by simp)).trans (blk_new1 w _ _)))
        exact bodyPost_ret (v := .tuple #[.agg #[.int .i64 pg0.place, .string pg0.data], .int .i64 1]) (by simp [results, Try.results82, go_sem, k0, k1, pg0]) rfl ⟨rfl, put_close b1⟩
    · rw [if_neg h1] at h ⊢
      by_cases h2 : off < 0 ∨ 220 < off + s.size
      · rw [if_pos h2]
        clear h
        have p1 : 0 ≤ place := by omega
        have p2 : place ≤ 2147483647 := by omega
        have h2' : off < 0 ∨ (0 ≤ off ∧ 220 < (s.size : Int)) ∨ (0 ≤ off ∧ (s.size : Int) ≤ 220 ∧ 220 - (s.size : Int) < off) := by omega
        clear h1 h2
        rcases h2' with a | ⟨a, b⟩ | ⟨a, b, c⟩
        · go_enter Try.func82, Try.ntmps82
          go_wp2_with (go_at_call 72; refine (right_yes hr _).mono ?_; rintro e w1 ⟨rfl, b1⟩; obtain ⟨k0, k1, q0, q1⟩ := page_blk ((b1.block (w.heap.size + 1) (by simp)).trans (blk_new1 w _ _)))
          exact bodyPost_ret (v := .tuple #[.agg #[.int .i64 pg0.place, .string pg0.data], .int .i64 2]) (by simp [results, Try.results82, go_sem, k0, k1, pg0]) rfl ⟨rfl, put_close b1⟩
        · go_enter Try.func82, Try.ntmps82
          go_wp2_with (go_at_call 72; refine (right_yes hr _).mono ?_; rintro e w1 ⟨rfl, b1⟩; obtain ⟨k0, k1, q0, q1⟩ := page_blk ((b1.block (w.heap.size + 1) (by simp)).trans (blk_new1 w _ _)))
          all_goals exact bodyPost_ret (v := .tuple #[.agg #[.int .i64 pg0.place, .string pg0.data], .int .i64 2]) (by simp [results, Try.results82, go_sem, k0, k1, pg0]) rfl ⟨rfl, put_close b1⟩
        · go_enter Try.func82, Try.ntmps82
          go_wp2_with (go_at_call 72; refine (right_yes hr _).mono ?_; rintro e w1 ⟨rfl, b1⟩; obtain ⟨k0, k1, q0, q1⟩ := page_blk ((b1.block (w.heap.size + 1) (by simp)).trans (blk_new1 w _ _)))
          all_goals exact bodyPost_ret (v := .tuple #[.agg #[.int .i64 pg0.place, .string pg0.data], .int .i64 2]) (by simp [results, Try.results82, go_sem, k0, k1, pg0]) rfl ⟨rfl, put_close b1⟩
      · rw [if_neg h2] at h; exact absurd rfl h
  · have hE : putE p off s place = 3 := by unfold putE; rw [if_pos hr]
    rw [hE]
    clear hE h
    go_enter Try.func82, Try.ntmps82
    go_wp2_with (go_at_call 72; refine (right_no hr _).mono ?_; rintro e w1 ⟨rfl, b1⟩; obtain ⟨k0, k1, q0, q1⟩ := page_blk ((b1.block (w.heap.size + 1) (by simp)).trans (blk_new1 w _ _)))
    exact bodyPost_ret (v := .tuple #[.agg #[.int .i64 pg0.place, .string pg0.data], .int .i64 3]) (by simp [results, Try.results82, go_sem, k0, k1, pg0]) rfl ⟨rfl, put_close b1⟩
end Go.Proofs.Ytepkonhgkabkcaa
