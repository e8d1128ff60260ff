/- Package page: Put where it puts, and Apply. No condition. -/
import Derived.Test.YtepkonhgkabkcaaPut
namespace Go.Proofs.Ytepkonhgkabkcaa
open Go.RowKit
open Go.Lib (byteCells byteCells_length)
set_option linter.unusedVariables false
set_option linter.unusedSimpArgs false

theorem putE_zero {p : Pg} {off : Int} {s : ByteArray} {place : Int} (h : putE p off s place = 0) : Right p ∧ 0 ≤ place ∧ place ≤ 2147483647 ∧ 0 ≤ off ∧ off + s.size ≤ 220 := by
  by_cases hr : Right p
  · rw [putE_case hr] at h
    by_cases h1 : place < 0 ∨ 2147483647 < place
    · rw [if_pos h1] at h; cases h
    · rw [if_neg h1] at h
      by_cases h2 : off < 0 ∨ 220 < off + s.size
      · rw [if_pos h2] at h; cases h
      · exact ⟨hr, by omega, by omega, by omega, by omega⟩
  · unfold putE at h; rw [if_pos hr] at h; cases h

theorem splice_all {d s : ByteArray} (h : s.size = d.size) : splice d 0 s = s := by
  have h1 : d.data.toList.length = d.size := rfl
  have h2 : d.data.toList.drop (0 + s.size) = [] := List.drop_of_length_le (by omega)
  unfold splice
  rw [h2]
  simp

theorem splice_none {d s : ByteArray} (h : d.size = 220) (hs : s.size = 0) : splice d 220 s = d := by
  have h1 : d.data.toList.length = 220 := h
  have h2 : s.data.toList = [] := List.eq_nil_of_length_eq_zero hs
  have h3 : d.data.toList.take 220 = d.data.toList := List.take_of_length_le (by omega)
  have h4 : d.data.toList.drop (220 + s.size) = [] := List.drop_of_length_le (by omega)
  unfold splice
  rw [h2, h3, h4]
  simp

set_option maxHeartbeats 2000000 in
theorem put_ok (p : Pg) (off : Nat) (s : ByteArray) (place : Int) (w : World) (hr : Right p) (hp1 : 0 ≤ place) (hp2 : place ≤ 2147483647) (ho : off + s.size ≤ 220) :
    Calls Try.prog 82 #[.agg #[.int .i64 p.place, .string p.data], .int .i64 off, .string s, .int .i64 place] w (PutPost w ⟨place, splice p.data off s⟩ 0) := by
  have hsz := hr.2.2
  have a1 : (s.size : Int) ≤ 220 := by omega
  have a2 : (off : Int) ≤ 220 := by omega
  have a4 : min (s.size : Int) 220 = s.size := by omega
  have a5 : (off : Int) ≤ 220 - (s.size : Int) := by omega
  by_cases hoff : off = 220
  · subst hoff
    have hs0 : s.size = 0 := by omega
    have HS0 := Lib.hid hs0
    go_enter Try.func82, Try.ntmps82
    go_wp2_with (go_at_call 72; refine (right_yes hr _).mono ?_; rintro e w1 ⟨rfl, b1⟩; have g8 := (b1.block (w.heap.size + 1) (by simp)).trans (blk_new1 w _ _); obtain ⟨m0, m1, n0, n1⟩ := page_blk ((b1.block w.heap.size (by simp; omega)).trans (blk_new0 w _ _)))
    have z1 : w.heap.size + 2 ≤ w1.heap.size := by have := b1.size; simpa using this
    have hz : (w1.alloc (.cells Try.zeroCells202 202)).drew.heap[w1.heap.size]? = some (.cells (byteCells zeros.data.toList).toArray 202 (0, 0)) := by rw [← zeroCells_bytes]; exact heap_alloc_new _ _
    obtain ⟨W2, hc2, hW2, hg2⟩ := copy_row (w1.alloc (.cells Try.zeroCells202 202)).drew w1.heap.size 0 220 220 zeros p.data (by omega) hz (by rw [zeros_size]; omega) 3
    rw [splice_all (by rw [zeros_size]; omega)] at hW2
    obtain ⟨W3, hc3, hW3, hg3⟩ : ∃ W3, (Builtin.copy_ #[94, 9] 3 #[.slice (some ⟨w1.heap.size, 0, none⟩) 0 0, .string s]).run Try.prog W2 = .ok (goInt s.size) W3 ∧ W3.heap[w1.heap.size]? = some (.cells (byteCells (splice p.data 220 s).data.toList).toArray 202 (0, 0)) ∧ W2.grownBy W3 (some w1.heap.size) :=
      ⟨W2, by rw [show (goInt (s.size : Int)) = goInt 0 from by rw [hs0]; rfl]; exact Go.Lib.run_copy_empty_string W2 94 9 3 5 _ 0 0 s Try.underlying94 (by kernel_rfl) hs0, by rw [splice_none hsz hs0]; exact hW2, ⟨rfl, rfl, rfl, Nat.le_refl _, fun _ _ _ => rfl⟩⟩
    have hcv := conv_row W3 w1.heap.size 220 (splice p.data 220 s) 220 (by rw [splice_size (by omega)]; exact hsz) hW3
    have g8' : W3.heap[w.heap.size + 1]? = some (.cells #[.int .i64 0, .string ⟨#[]⟩] 56 (0, 0)) := by
      have hs2 := hg2.size
      rw [hg3.block _ (by simp at hs2; omega) (by simp; omega), hg2.block _ (by simp; omega) (by simp; omega)]
      show (w1.alloc _).heap[_]? = _
      rw [Below.heap_alloc _ _ _ (by omega)]
      exact g8
    obtain ⟨k0, k1, q0, q1⟩ := page_blk g8'
    have hb3 : Below w.heap.size w W3 := by
      have h1 : Below w.heap.size w w1 := below_then (((Below.refl _ _).alloc (Nat.le_refl _) _).alloc (by simp) _) b1 (by simp; omega)
      have h2 : Below w.heap.size w W2 := (h1.alloc (by omega) (.cells Try.zeroCells202 202)).drew.grown hg2 (by simp; omega) (fun k e => by cases e; omega)
      exact h2.grown hg3 h2.size (fun k e => by cases e; omega)
    have m1' : (w1.alloc (.cells Try.zeroCells202 202)).cell? ⟨w.heap.size, 1, none⟩ = some (.string p.data) := by rw [World.cell?_alloc_lt _ _ _ (by show w.heap.size < _; omega)]; exact m1
    have HC2 := Lib.hid hc2
    have HC3 := Lib.hid hc3
    clear hs0 hc2 hc3 hz hW2 hW3 hg2 hg3 g8 g8'
    go_region_law (refine step_copy_run rfl (.tmp 41) (.tmp 43) 94 9 rfl _ _ rfl rfl HC2.out ?_)
    have hc3 := HC3.out
    go_wp2
    exact bodyPost_ret (v := .tuple #[.agg #[.int .i64 place, .string (splice p.data 220 s)], .int .i64 0]) (by simp [results, Try.results82, go_sem, k0, k1]) rfl ⟨rfl, (hb3.setCell (by simp) _).setCell (by simp) _⟩
  · go_enter Try.func82, Try.ntmps82
    go_wp2_with (go_at_call 72; refine (right_yes hr _).mono ?_; rintro e w1 ⟨rfl, b1⟩; have g8 := (b1.block (w.heap.size + 1) (by simp)).trans (blk_new1 w _ _); obtain ⟨m0, m1, n0, n1⟩ := page_blk ((b1.block w.heap.size (by simp; omega)).trans (blk_new0 w _ _)))
    have z1 : w.heap.size + 2 ≤ w1.heap.size := by have := b1.size; simpa using this
    have hz : (w1.alloc (.cells Try.zeroCells202 202)).drew.heap[w1.heap.size]? = some (.cells (byteCells zeros.data.toList).toArray 202 (0, 0)) := by rw [← zeroCells_bytes]; exact heap_alloc_new _ _
    obtain ⟨W2, hc2, hW2, hg2⟩ := copy_row (w1.alloc (.cells Try.zeroCells202 202)).drew w1.heap.size 0 220 220 zeros p.data (by omega) hz (by rw [zeros_size]; omega) 3
    rw [splice_all (by rw [zeros_size]; omega)] at hW2
    obtain ⟨W3, hc3, hW3, hg3⟩ := copy_row W2 w1.heap.size off (220 - off) (220 - off) p.data s (by omega) hW2 (by omega) 3
    have hcv := conv_row W3 w1.heap.size 220 (splice p.data off s) 220 (by rw [splice_size (by omega)]; exact hsz) hW3
    have g8' : W3.heap[w.heap.size + 1]? = some (.cells #[.int .i64 0, .string ⟨#[]⟩] 56 (0, 0)) := by
      have hs2 := hg2.size
      rw [hg3.block _ (by simp at hs2; omega) (by simp; omega), hg2.block _ (by simp; omega) (by simp; omega)]
      show (w1.alloc _).heap[_]? = _
      rw [Below.heap_alloc _ _ _ (by omega)]
      exact g8
    obtain ⟨k0, k1, q0, q1⟩ := page_blk g8'
    have hb3 : Below w.heap.size w W3 := by
      have h1 : Below w.heap.size w w1 := below_then (((Below.refl _ _).alloc (Nat.le_refl _) _).alloc (by simp) _) b1 (by simp; omega)
      have h2 : Below w.heap.size w W2 := (h1.alloc (by omega) (.cells Try.zeroCells202 202)).drew.grown hg2 (by simp; omega) (fun k e => by cases e; omega)
      exact h2.grown hg3 h2.size (fun k e => by cases e; omega)
    have m1' : (w1.alloc (.cells Try.zeroCells202 202)).cell? ⟨w.heap.size, 1, none⟩ = some (.string p.data) := by rw [World.cell?_alloc_lt _ _ _ (by show w.heap.size < _; omega)]; exact m1
    have HC2 := Lib.hid hc2
    have HC3 := Lib.hid hc3
    clear hc2 hc3 hz hW2 hW3 hg2 hg3 g8 g8'
    go_region_law (refine step_copy_run rfl (.tmp 41) (.tmp 43) 94 9 rfl _ _ rfl rfl HC2.out ?_)
    have hc3 := HC3.out
    go_wp2
    exact bodyPost_ret (v := .tuple #[.agg #[.int .i64 place, .string (splice p.data off s)], .int .i64 0]) (by simp [results, Try.results82, go_sem, k0, k1]) rfl ⟨rfl, (hb3.setCell (by simp) _).setCell (by simp) _⟩

theorem put_calls (p : Pg) (off : Int) (s : ByteArray) (place : Int) (w : World) (hs : s.size ≤ 9223372036854775807) :
    Calls Try.prog 82 #[.agg #[.int .i64 p.place, .string p.data], .int .i64 off, .string s, .int .i64 place] w (PutPost w (putP p off s place) (putE p off s place)) := by
  by_cases h : putE p off s place = 0
  · obtain ⟨hr, h1, h2, h3, h4⟩ := putE_zero h
    obtain ⟨o, rfl⟩ := Int.eq_ofNat_of_zero_le h3
    have e : putP p (o : Int) s place = ⟨place, splice p.data o s⟩ := by unfold putP; rw [if_pos h]; rfl
    rw [h, e]
    exact put_ok p o s place w hr h1 h2 (by omega)
  · rw [putP_no rfl h]
    exact put_err p off s place w hs h

/-! ### records -/
structure Rc where
  kind : Int
  txn : Int
  page : Int
  off : Int
  prev : Int
  next : Int
  begin_ : Int
  before : ByteArray
  after : ByteArray
  txns : Value
  pages : Value
def Rc.val (r : Rc) : Value := .agg #[.int .i64 r.kind, .int .i64 r.txn, .int .i64 r.page, .int .i64 r.off, .int .i64 r.prev, .int .i64 r.next, .int .i64 r.begin_, .string r.before, .string r.after, r.txns, r.pages]
def applyP (p : Pg) (place : Int) (r : Rc) : Pg :=
  if (r.kind = 1 ∨ r.kind = 2) ∧ p.place < place then (if putE p r.off r.after place = 0 then putP p r.off r.after place else p) else p
def ApplyPost (w : World) (q : Pg) (r : Ending) (w' : World) : Prop := r = .returned (.agg #[.int .i64 q.place, .string q.data]) ∧ Below w.heap.size w w'

theorem blk_new2 (w : World) (A B C : Obj) : (((w.alloc A).alloc B).alloc C).heap[w.heap.size + 1 + 1]? = some C := by
  have := heap_alloc_new ((w.alloc A).alloc B) C
  simpa using this
theorem blk_new20 (w : World) (A B C : Obj) : (((w.alloc A).alloc B).alloc C).heap[w.heap.size]? = some A := by
  rw [Below.heap_alloc _ _ _ (by simp; omega)]; exact blk_new0 _ _ _
theorem alloc_blk {w : World} {b : Nat} {o : Obj} (h : w.heap[b]? = some o) (o' : Obj) : (w.alloc o').heap[b]? = some o := by
  rw [Below.heap_alloc _ _ _ (Array.getElem?_eq_some_iff.1 h).1]; exact h
theorem apply_close {w w1 : World} {A B C D : Obj} (b1 : Below (((w.alloc A).alloc B).alloc C).heap.size (((w.alloc A).alloc B).alloc C) w1) {a : Nat} (ha : w.heap.size ≤ a) {u v : Value} :
    Below w.heap.size w (((w1.alloc D).setCell ⟨a, 0, none⟩ u).setCell ⟨a, 1, none⟩ v) := by
  have h1 := below_then ((((Below.refl _ _).alloc (Nat.le_refl _) A).alloc (by simp) B).alloc (by simp; omega) C) b1 (by simp; omega)
  exact ((h1.alloc h1.size D).setCell ha _).setCell ha _

set_option maxHeartbeats 2000000 in
theorem apply_calls (p : Pg) (place : Int) (r : Rc) (w : World) (hs : r.after.size ≤ 9223372036854775807) (ht : ∃ A n c, r.txns = .slice A n c) (hg : ∃ A n c, r.pages = .slice A n c) :
    Calls Try.prog 109 #[.agg #[.int .i64 p.place, .string p.data], .int .i64 place, .agg #[.int .i64 r.kind, .int .i64 r.txn, .int .i64 r.page, .int .i64 r.off, .int .i64 r.prev, .int .i64 r.next, .int .i64 r.begin_, .string r.before, .string r.after, r.txns, r.pages]] w (ApplyPost w (applyP p place r)) := by
  obtain ⟨A1, n1, c1, e1⟩ := ht
  obtain ⟨A2, n2, c2, e2⟩ := hg
  rw [e1, e2]
  by_cases hk : (r.kind = 1 ∨ r.kind = 2) ∧ p.place < place
  · obtain ⟨hk, hp⟩ := hk
    have hp' : decide (place ≤ p.place) = false := by simp; omega
    by_cases hE : putE p r.off r.after place = 0
    · have hA : applyP p place r = putP p r.off r.after place := by unfold applyP; rw [if_pos ⟨hk, hp⟩, if_pos hE]
      have cP := put_calls p r.off r.after place
      rw [hE] at cP
      rw [hA]
      have CP := Lib.hid cP
      clear hA hE cP
      rcases hk with k1 | k1
      · have b1 : (r.kind != 1) = false := by simp [k1]
        have b2 : (r.kind == 1) = true := by simp [k1]
        clear k1
        go_enter Try.func109, Try.ntmps109
        go_wp2_with (go_at_call 82; refine (CP.out _ hs).mono ?_; rintro e w1 ⟨rfl, b3⟩; have g2 := (b3.block (w.heap.size + 1 + 1) (by simp)).trans (blk_new2 w _ _ _); obtain ⟨k0, k1, q0, q1⟩ := page_blk (alloc_blk g2 (.cells #[.int .i64 (putP p r.off r.after place).place, .string (putP p r.off r.after place).data] 56)); clear g2)
        exact bodyPost_ret (v := .agg #[.int .i64 (putP p r.off r.after place).place, .string (putP p r.off r.after place).data]) (by simp [results, Try.results109, go_sem, k0, k1]) rfl ⟨rfl, apply_close (a := w.heap.size + 1 + 1) b3 (by omega)⟩
      · have b1 : (r.kind != 1) = true := by simp [k1]
        have b2 : (r.kind != 2) = false := by simp [k1]
        clear k1
        go_enter Try.func109, Try.ntmps109
        go_wp2_with (go_at_call 82; refine (CP.out _ hs).mono ?_; rintro e w1 ⟨rfl, b3⟩; have g2 := (b3.block (w.heap.size + 1 + 1) (by simp)).trans (blk_new2 w _ _ _); obtain ⟨k0, k1, q0, q1⟩ := page_blk (alloc_blk g2 (.cells #[.int .i64 (putP p r.off r.after place).place, .string (putP p r.off r.after place).data] 56)); clear g2)
        exact bodyPost_ret (v := .agg #[.int .i64 (putP p r.off r.after place).place, .string (putP p r.off r.after place).data]) (by simp [results, Try.results109, go_sem, k0, k1]) rfl ⟨rfl, apply_close (a := w.heap.size + 1 + 1) b3 (by omega)⟩
    · have hA : applyP p place r = p := by unfold applyP; rw [if_pos ⟨hk, hp⟩, if_neg hE]
      have CP := Lib.hid (put_calls p r.off r.after place)
      have hE' : (putE p r.off r.after place == 0) = false := by simpa using hE
      rw [hA]
      clear hA hE
      rcases hk with k1 | k1
      · have b1 : (r.kind != 1) = false := by simp [k1]
        have b2 : (r.kind == 1) = true := by simp [k1]
        clear k1
        go_enter Try.func109, Try.ntmps109
        go_wp2_with (go_at_call 82; refine (CP.out _ hs).mono ?_; rintro e w1 ⟨rfl, b3⟩; have g2 := (b3.block (w.heap.size + 1 + 1) (by simp)).trans (blk_new2 w _ _ _); obtain ⟨k0, k1, q0, q1⟩ := page_blk (alloc_blk g2 (.cells #[.int .i64 (putP p r.off r.after place).place, .string (putP p r.off r.after place).data] 56)); clear g2; obtain ⟨k2, k3, q2, q3⟩ := page_blk (alloc_blk ((b3.block w.heap.size (by simp; omega)).trans (blk_new20 w _ _ _)) (.cells #[.int .i64 (putP p r.off r.after place).place, .string (putP p r.off r.after place).data] 56)))
        exact bodyPost_ret (v := .agg #[.int .i64 p.place, .string p.data]) (by simp [results, Try.results109, go_sem, k0, k1]) rfl ⟨rfl, apply_close (a := w.heap.size + 1 + 1) b3 (by omega)⟩
      · have b1 : (r.kind != 1) = true := by simp [k1]
        have b2 : (r.kind != 2) = false := by simp [k1]
        clear k1
        go_enter Try.func109, Try.ntmps109
        go_wp2_with (go_at_call 82; refine (CP.out _ hs).mono ?_; rintro e w1 ⟨rfl, b3⟩; have g2 := (b3.block (w.heap.size + 1 + 1) (by simp)).trans (blk_new2 w _ _ _); obtain ⟨k0, k1, q0, q1⟩ := page_blk (alloc_blk g2 (.cells #[.int .i64 (putP p r.off r.after place).place, .string (putP p r.off r.after place).data] 56)); clear g2; obtain ⟨k2, k3, q2, q3⟩ := page_blk (alloc_blk ((b3.block w.heap.size (by simp; omega)).trans (blk_new20 w _ _ _)) (.cells #[.int .i64 (putP p r.off r.after place).place, .string (putP p r.off r.after place).data] 56)))
        exact bodyPost_ret (v := .agg #[.int .i64 p.place, .string p.data]) (by simp [results, Try.results109, go_sem, k0, k1]) rfl ⟨rfl, apply_close (a := w.heap.size + 1 + 1) b3 (by omega)⟩
  · have hE : applyP p place r = p := by unfold applyP; rw [if_neg hk]
    rw [hE]
    clear hE
    by_cases k1 : r.kind = 1
    · have hp : place ≤ p.place := by omega
      have b1 : (r.kind != 1) = false := by simp [k1]
      have b2 : (r.kind == 1) = true := by simp [k1]
      clear hk k1
      go_enter Try.func109, Try.ntmps109
      go_wp2_with fail
      exact bodyPost_ret (v := .agg #[.int .i64 p.place, .string p.data]) (by simp [results, Try.results109, go_sem]) rfl ⟨rfl, (((Below.refl _ _).alloc (Nat.le_refl _) _).alloc (by simp) _).alloc (by simp; omega) _⟩
    · have b1 : (r.kind != 1) = true := by simpa using k1
      by_cases k2 : r.kind = 2
      · have hp : place ≤ p.place := by omega
        have b2 : (r.kind != 2) = false := by simp [k2]
        clear hk k1 k2
        go_enter Try.func109, Try.ntmps109
        go_wp2_with fail
        exact bodyPost_ret (v := .agg #[.int .i64 p.place, .string p.data]) (by simp [results, Try.results109, go_sem]) rfl ⟨rfl, (((Below.refl _ _).alloc (Nat.le_refl _) _).alloc (by simp) _).alloc (by simp; omega) _⟩
      · have b2 : (r.kind != 2) = true := by simpa using k2
        clear hk k1 k2
        go_enter Try.func109, Try.ntmps109
        go_wp2_with fail
        exact bodyPost_ret (v := .agg #[.int .i64 p.place, .string p.data]) (by simp [results, Try.results109, go_sem]) rfl ⟨rfl, (((Below.refl _ _).alloc (Nat.le_refl _) _).alloc (by simp) _).alloc (by simp; omega) _⟩
end Go.Proofs.Ytepkonhgkabkcaa
