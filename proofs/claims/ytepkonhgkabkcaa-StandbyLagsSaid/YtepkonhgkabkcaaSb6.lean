/- Package standby: how Promote orders the open transactions. No condition. -/
import Derived.Test.YtepkonhgkabkcaaSb5
namespace Go.Proofs.Ytepkonhgkabkcaa
open Go.RowKit Go.Maps MapI Go.Sort Go.Shelf
set_option linter.unusedVariables false
set_option linter.unusedSimpArgs false

abbrev I64 := { x : Int // (Lit.int .i64 x).wf = true }
instance : Inhabited I64 := ⟨⟨0, by decide⟩⟩
def encI (x : I64) : Value := .int .i64 x.1
def lastOf (l : List (Int × Int)) (k : Int) : Int := (get k l).getD 0
theorem run_last {W : World} {mb : Nat} {l : List (Int × Int)} (hm : MapIs Try.prog 3 encN W mb l) {k : Int} (hk : (Lit.int .i64 k).wf = true) : (Instr.lookup 26 (.map (some mb)) (.int .i64 k) false).run Try.prog W = .ok (.int .i64 (lastOf l k)) W := by
  have := hm.run_look (P := Try.prog) Try.underlying3 (t := 26) uBeg (zeroN W) hk
  rw [this]
  unfold lastOf
  cases get k l <;> rfl
set_option maxHeartbeats 1000000 in
theorem promote1_calls {W : World} {bx sb mb : Nat} {x0 x1 : Value} {l : List (Int × Int)} {t1 t2 : Nat} (hb : W.heap[bx]? = some (.cells #[.pointer (some ⟨sb, 0, none⟩)] t1 (0, 0))) (hs : W.heap[sb]? = some (.cells #[x0, x1, .map (some mb)] t2 (0, 0))) (hm : MapIs Try.prog 3 encN W mb l) (a b : I64) :
    Calls Try.prog 93 #[.int .i64 a.1, .int .i64 b.1, .pointer (some ⟨bx, 0, none⟩)] W fun e w' => e = .returned (.int .i64 (cmpI (lastOf l b.1) (lastOf l a.1))) ∧ ∃ q, w' = W.drewN q := by
  have c0 : W.cell? ⟨bx, 0, none⟩ = some (.pointer (some ⟨sb, 0, none⟩)) := cell_of_block hb 0
  have c2 : W.cell? ⟨sb, 2, none⟩ = some (.map (some mb)) := cell_of_block hs 2
  obtain ⟨a, ha⟩ := a
  obtain ⟨b, hb'⟩ := b
  dsimp only
  have l1 : ∀ n, (Instr.lookup 26 (.map (some mb)) (.int .i64 a) false).run Try.prog (W.drewN n) = .ok (.int .i64 (lastOf l a)) (W.drewN n) := fun n => run_last (hm.of_block (by rw [World.heap_drewN])) ha
  have l2 : ∀ n, (Instr.lookup 26 (.map (some mb)) (.int .i64 b) false).run Try.prog (W.drewN n) = .ok (.int .i64 (lastOf l b)) (W.drewN n) := fun n => run_last (hm.of_block (by rw [World.heap_drewN])) hb'
  have l11 := run_last hm ha
  have l21 := run_last hm hb'
  obtain ⟨va, hva⟩ : ∃ v, v = lastOf l a := ⟨_, rfl⟩
  obtain ⟨vb, hvb⟩ : ∃ v, v = lastOf l b := ⟨_, rfl⟩
  rw [← hva] at l1 l11 ⊢
  rw [← hvb] at l2 l21 ⊢
  clear hva hvb hb hs hm
  go_enter Try.func93, Try.ntmps93
  go_wp2_with fail
  go_quiet ((go_at_call 76; exact Calls.quiet_of ((cmp_calls _ _ _).mono (fun e w' h => ⟨h.1, 0, h.2.symm⟩))))
  go_wp2_with fail
  go_ret
  exact ⟨rfl, _, rfl⟩
def undoP (p : Pg) (r : Rc) : Pg := if putE p r.off r.after p.place = 0 then putP p r.off r.after p.place else p
theorem undo_close {w w1 : World} {A B D : Obj} (b1 : Below ((w.alloc A).alloc B).heap.size ((w.alloc A).alloc B) w1) {a : Nat} (ha : w.heap.size ≤ a) {u v : Value} :
    Below w.heap.size w (((w1.alloc D).setCell ⟨a, 0, none⟩ u).setCell ⟨a, 1, none⟩ v) := by
  have h1 := below_then (((Below.refl _ _).alloc (Nat.le_refl _) A).alloc (by simp) B) b1 (by simp; omega)
  exact ((h1.alloc h1.size D).setCell ha _).setCell ha _
set_option maxHeartbeats 2000000 in
theorem promote2_calls {w : World} {xb : Nat} {r : Rc} {cs : Array Value} {t : Nat} (p : Pg) (hx : w.heap[xb]? = some (.cells cs t (0, 0))) (hc : cs = (rcCells r).toArray) (hok : r.after.size ≤ 9223372036854775807) :
    Calls Try.prog 95 #[.agg #[.int .i64 p.place, .string p.data], .pointer (some ⟨xb, 0, none⟩)] w fun e w' => e = .returned (.agg #[.int .i64 (undoP p r).place, .string (undoP p r).data]) ∧ Below w.heap.size w w' := by
  have d3 : w.cell? ⟨xb, 3, none⟩ = some (.int .i64 r.off) := by rw [cell_of_block hx 3, hc]; rfl
  have d8 : w.cell? ⟨xb, 8, none⟩ = some (.string r.after) := by rw [cell_of_block hx 8, hc]; rfl
  have hlx := lt_of_block hx
  have cP := fun W => put_calls p r.off r.after p.place W hok
  clear hx hc
  by_cases h : putE p r.off r.after p.place = 0
  · have hq : undoP p r = putP p r.off r.after p.place := if_pos h
    rw [h] at cP
    rw [hq]
    obtain ⟨q, hq'⟩ : ∃ q, q = putP p r.off r.after p.place := ⟨_, rfl⟩
    rw [← hq'] at cP ⊢
    have CP := Lib.hid cP
    clear hq hq' h cP
    go_enter Try.func95, Try.ntmps95
    go_wp2_with (go_at_call 82; refine (CP.out _).mono ?_; rintro e w1 ⟨rfl, b3⟩; have g2 := (b3.block (w.heap.size + 1) (by simp)).trans (blk_new1 w _ _); obtain ⟨k0, k1, q0, q1⟩ := page_blk (alloc_blk g2 (.cells #[.int .i64 q.place, .string q.data] 56)); clear g2; obtain ⟨k2, k3, q2, q3⟩ := page_blk (alloc_blk ((b3.block w.heap.size (by simp; omega)).trans (blk_new0 w _ _)) (.cells #[.int .i64 q.place, .string q.data] 56)))
    exact bodyPost_ret (v := .agg #[.int .i64 q.place, .string q.data]) (by simp [results, Try.results95, go_sem, k0, k1]) rfl ⟨rfl, undo_close (a := w.heap.size + 1) b3 (by omega)⟩
  · have hq : undoP p r = p := if_neg h
    rw [hq]
    have hE' : (putE p r.off r.after p.place == 0) = false := by simpa using h
    obtain ⟨q, hq'⟩ : ∃ q, q = putP p r.off r.after p.place := ⟨_, rfl⟩
    obtain ⟨c, hc'⟩ : ∃ c, c = putE p r.off r.after p.place := ⟨_, rfl⟩
    rw [← hq', ← hc'] at cP
    rw [← hc'] at hE'
    have CP := Lib.hid cP
    clear hq hq' h cP hc'
    go_enter Try.func95, Try.ntmps95
    go_wp2_with (go_at_call 82; refine (CP.out _).mono ?_; rintro e w1 ⟨rfl, b3⟩; have g2 := (b3.block (w.heap.size + 1) (by simp)).trans (blk_new1 w _ _); obtain ⟨k0, k1, q0, q1⟩ := page_blk (alloc_blk g2 (.cells #[.int .i64 q.place, .string q.data] 56)); clear g2; obtain ⟨k2, k3, q2, q3⟩ := page_blk (alloc_blk ((b3.block w.heap.size (by simp; omega)).trans (blk_new0 w _ _)) (.cells #[.int .i64 q.place, .string q.data] 56)))
    exact bodyPost_ret (v := .agg #[.int .i64 p.place, .string p.data]) (by simp [results, Try.results95, go_sem, k0, k1]) rfl ⟨rfl, undo_close (a := w.heap.size + 1) b3 (by omega)⟩
end Go.Proofs.Ytepkonhgkabkcaa
