/- Package judge: entry as a whole, and begin. No condition. -/
import Derived.Test.YtepkonhgkabkcaaJent6
namespace Go.Proofs.Ytepkonhgkabkcaa
open Go.RowKit Go.Maps MapI
set_option linter.unusedVariables false
set_option linter.unusedSimpArgs false

def JAt (w : World) (B jb mb gb : Nat) (fv : Value) (s : JSt) : Prop := ∃ l, Jud w B jb mb gb l fv s
structure Small (s : JSt) (i : Nat) : Prop where
  opn : s.opn.length ≤ i
  begun : s.begun.length ≤ i
  stand : ∀ p ∈ s.opn, p.2.stand.length ≤ i
theorem Small.mono {s : JSt} {i j : Nat} (h : Small s i) (hij : i ≤ j) : Small s j := ⟨Nat.le_trans h.opn hij, Nat.le_trans h.begun hij, fun p hp => Nat.le_trans (h.stand p hp) hij⟩
theorem Small.put {s : JSt} {i : Nat} {n : Int} {t : JTx} (h : Small s i) (ht : t.stand.length ≤ i + 1) : ∀ p ∈ MapI.put n t s.opn, p.2.stand.length ≤ i + 1 := fun p hp => by
  rcases mem_put.1 hp with rfl | ⟨hp, _⟩
  · exact ht
  · exact Nat.le_succ_of_le (h.stand p hp)
theorem own_small {s : JSt} {a : Int} {r : Rc} {i : Nat} (h : Small s i) : Small (ownJ s a r).1 (i + 1) := by
  have ht := openT_small (a := a) (r := r) h.stand
  have hp : ∀ {t : JTx}, (MapI.put r.txn t s.opn).length ≤ i + 1 := Nat.le_trans length_put_le (Nat.succ_le_succ h.opn)
  have hd : (MapI.del r.txn s.opn).length ≤ i + 1 := Nat.le_trans length_del_le (Nat.le_succ_of_le h.opn)
  have hb := Nat.le_succ_of_le h.begun
  unfold ownJ
  split
  · exact ⟨hp, hb, h.put (by simpa using ht)⟩
  · split
    · exact ⟨hp, hb, h.put (by simp; omega)⟩
    · split
      · exact ⟨hd, hb, fun p hp => Nat.le_succ_of_le (h.stand p (mem_del.1 hp).1)⟩
      · exact ⟨hd, hb, fun p hp => Nat.le_succ_of_le (h.stand p (mem_del.1 hp).1)⟩
theorem entry_small {s : JSt} {a : Int} {r : Rc} {i : Nat} (h : Small s i) : Small (entryJ s a r).1 (i + 1) := by
  have hl : Small (lastJ s a) i := ⟨h.opn, h.begun, h.stand⟩
  unfold entryJ
  split
  · exact own_small hl
  · split
    · exact ⟨Nat.le_succ_of_le h.opn, Nat.le_trans length_put_le (Nat.succ_le_succ h.begun), fun p hp => Nat.le_succ_of_le (h.stand p hp)⟩
    · split
      · exact hl.mono (Nat.le_succ _)
      · exact hl.mono (Nat.le_succ _)
theorem entry_calls {w : World} {B jb mb gb b o : Nat} {fv : Value} {s : JSt} {r : Rc} {a : Int} (h : JAt w B jb mb gb fv s) (hB : B ≤ w.heap.size) (hx : EntAt w b o a r) (hrb : b < B) (hok : RcOk r) (hwa : (Lit.int .i64 a).wf = true) (hs : Small s 100000) :
    Calls Try.prog 54 #[.pointer (some ⟨jb, 0, none⟩), .pointer (some ⟨b, o, none⟩)] w fun e w' => e = .returned (.bool (entryJ s a r).2) ∧ JAt w' B jb mb gb fv (entryJ s a r).1 ∧ Foot B w w' := by
  obtain ⟨l, h⟩ := h
  have key : Calls Try.prog 54 #[.pointer (some ⟨jb, 0, none⟩), .pointer (some ⟨b, o, none⟩)] w (OwnPost w B jb mb gb fv (entryJ s a r)) := by
    by_cases h1 : r.kind = 1
    · exact entry_one h hB hx hrb hok hwa hs.opn hs.begun hs.stand h1
    by_cases h2 : r.kind = 2
    · exact entry_two h hB hx hrb hok hwa hs.opn hs.begun hs.stand h2
    by_cases h3 : r.kind = 3
    · exact entry_three h hB hx hrb hok hwa hs.opn hs.begun hs.stand h3
    by_cases h4 : r.kind = 4
    · exact entry_four h hB hx hrb hok hwa hs.opn hs.begun hs.stand h4
    by_cases h5 : r.kind = 5
    · exact entry_five h hB hx hrb hok hwa hs.opn hs.begun hs.stand h5
    by_cases h6 : r.kind = 6
    · exact entry_six h hB hx hrb hok hwa hs.opn hs.begun hs.stand h6
    exact entry_else h hB hx hrb hok hwa (by simpa using h1) (by simpa using h2) (by simpa using h3) (by simpa using h4) (by simpa using h5) (by simpa using h6)
  refine key.mono ?_
  rintro e w' ⟨h1, l', h2, h3⟩
  exact ⟨h1, ⟨l', h2⟩, h3⟩

def st0 : JSt := ⟨0, [], List.replicate 8 ⟨0, zeros⟩, [], none⟩
def fv0 : Value := .func (.func 101) #[] #[]
theorem small0 : Small st0 0 := ⟨by simp [st0], by simp [st0], by simp [st0]⟩
/-- The judge's block while its pages are laid. -/
def Begun (w wr : World) (i : Nat) : Prop := ∃ cs : Array Value, wr.heap[w.heap.size + 2]? = some (.cells cs tJ (0, 0)) ∧ cs.size = 20 ∧ cs[0]? = some (.int .i64 0) ∧ cs[1]? = some (.map (some w.heap.size)) ∧ cs[18]? = some (.map (some (w.heap.size + 1))) ∧ cs[19]? = some fv0 ∧
  (∀ j, j < i → cs[2 + j * 2]? = some (.int .i64 0) ∧ cs[2 + j * 2 + 1]? = some (.string zeros)) ∧ wr.heap[w.heap.size]? = some (.map #[] 0) ∧ wr.heap[w.heap.size + 1]? = some (.map #[] 0) ∧ Below w.heap.size w wr ∧ w.heap.size + 3 ≤ wr.heap.size
set_option maxHeartbeats 2000000 in
set_option maxRecDepth 100000 in
theorem begin_calls (w : World) : Calls Try.prog 53 #[] w fun e w' => e = .returned (.pointer (some ⟨w.heap.size + 2, 0, none⟩)) ∧ JAt w' w.heap.size (w.heap.size + 2) w.heap.size (w.heap.size + 1) fv0 st0 ∧ Below w.heap.size w w' := by
  have hmm := @run_makeMap Try.prog
  go_enter Try.func53, Try.ntmps53
  go_wp2_with fail
  go_loopg [7] 8 (fun k iv wr => ∃ i : Nat, i + k = 8 ∧ iv = .int .i64 i ∧ Begun w wr i)
  case atStart =>
    refine ⟨0, rfl, rfl, _, heap_alloc_new ((w.alloc (.map #[] 0)).alloc (.map #[] 0)) _ |> fun h => by simpa using h, rfl, rfl, rfl, rfl, rfl, fun j hj => absurd hj (Nat.not_lt_zero _), ?_, ?_, ?_, by simp⟩
    · rw [Below.heap_alloc _ _ _ (by simp; omega)]; exact blk_new0 _ _ _
    · rw [Below.heap_alloc _ _ _ (by simp)]; exact blk_new1 _ _ _
    · exact (((Below.refl _ w).alloc (Nat.le_refl _) _).alloc (by simp) _).alloc (by simp; omega) _
  case round =>
    obtain ⟨wo, rfl⟩ : ∃ wo : World, wo = wr := ⟨_, rfl⟩
    obtain ⟨ko, rfl⟩ : ∃ ko : Nat, ko = gk := ⟨_, rfl⟩
    obtain ⟨i, hin, rfl, hbg⟩ := hrel
    clear hmm
    by_cases hlt : i < 8
    · obtain ⟨cs, hcs, hsz, i0, i1, i18, i19, hpg, hm1, hm2, hbl, hge⟩ := hbg
      have b1 : (0 : Int) ≤ (i : Int) := by omega
      have b2 : (i : Int) < 8 := by omega
      have f1 : wo.frozen? ⟨w.heap.size + 2, 2 + i * 2, none⟩ = false := frozen_of_block hcs _
      have f2 : wo.frozen? ⟨w.heap.size + 2, 2 + i * 2 + 1, none⟩ = false := frozen_of_block hcs _
      obtain ⟨u1, hu1⟩ : ∃ u, cs[2 + i * 2]? = some u := ⟨_, Array.getElem?_eq_getElem (by omega)⟩
      obtain ⟨u2, hu2⟩ : ∃ u, cs[2 + i * 2 + 1]? = some u := ⟨_, Array.getElem?_eq_getElem (by omega)⟩
      have c1 : wo.cell? ⟨w.heap.size + 2, 2 + i * 2, none⟩ = some u1 := (cell_of_block hcs _).trans hu1
      have c2 : wo.cell? ⟨w.heap.size + 2, 2 + i * 2 + 1, none⟩ = some u2 := (cell_of_block hcs _).trans hu2
      go_wp2_with fail
      go_region_with (first | (go_at_call 86; refine (empty_calls _).mono ?_; rintro x w6 ⟨rfl, b6⟩; have k1 := keepd b6 c1; have k2 := keepd b6 c2; have k3 := keepdf b6 c1 f1; have k4 := keepdf b6 c2 f2))
      simp only [Exit.inBlock, Exit.then]
      refine (by assumption : ∀ (a : Act) (w_1 : World), Code.wp _ _ _ _ _ → _) _ _ ?_
      go_wp2_with fail
      go_roundg (ko - 1)
      case measure => omega
      case rel =>
        have hc6 : w6.heap[w.heap.size + 2]? = some (.cells cs tJ (0, 0)) := (b6.block _ (lt_of_block hcs)).trans hcs
        refine ⟨i + 1, by omega, by go_num, _, setCell_block _ _ _ _ (setCell_block _ _ _ _ hc6), by simpa using hsz, ?_, ?_, ?_, ?_, fun j hj => ?_, ?_, ?_, ?_, ?_⟩
        · rw [Array.getElem?_setIfInBounds_ne (by omega), Array.getElem?_setIfInBounds_ne (by omega)]; exact i0
        · rw [Array.getElem?_setIfInBounds_ne (by omega), Array.getElem?_setIfInBounds_ne (by omega)]; exact i1
        · rw [Array.getElem?_setIfInBounds_ne (by omega), Array.getElem?_setIfInBounds_ne (by omega)]; exact i18
        · rw [Array.getElem?_setIfInBounds_ne (by omega), Array.getElem?_setIfInBounds_ne (by omega)]; exact i19
        · by_cases hj2 : j = i
          · subst hj2
            constructor
            · rw [Array.getElem?_setIfInBounds_ne (by omega), Array.getElem?_setIfInBounds_self_of_lt (by omega)]
            · rw [Array.getElem?_setIfInBounds_self_of_lt (by simp; omega)]
          · have := hpg j (by omega)
            constructor
            · rw [Array.getElem?_setIfInBounds_ne (by omega), Array.getElem?_setIfInBounds_ne (by omega)]; exact this.1
            · rw [Array.getElem?_setIfInBounds_ne (by omega), Array.getElem?_setIfInBounds_ne (by omega)]; exact this.2
        · exact (Below.heap_setCell _ _ _ _ (by dsimp only; omega)).trans ((Below.heap_setCell _ _ _ _ (by dsimp only; omega)).trans ((b6.block _ (by show _ < wo.heap.size; omega)).trans hm1))
        · exact (Below.heap_setCell _ _ _ _ (by dsimp only; omega)).trans ((Below.heap_setCell _ _ _ _ (by dsimp only; omega)).trans ((b6.block _ (by show _ < wo.heap.size; omega)).trans hm2))
        · have h7 : Below w.heap.size w w6 := hbl.trans ⟨b6.os, b6.tape, b6.output, b6.size, fun k hk => b6.block k (by show k < wo.heap.size; omega)⟩
          exact (h7.setCell (by dsimp only; omega) _).setCell (by dsimp only; omega) _
        · have := b6.size
          have h8 : wo.heap.size ≤ w6.heap.size := this
          simp [World.setCell]; omega
    · obtain ⟨cs, hcs, hsz, i0, i1, i18, i19, hpg, hm1, hm2, hbl, hge⟩ := hbg
      have hi8 : i = 8 := by omega
      subst hi8
      go_wp2_with fail
      go_ret
      refine ⟨rfl, ⟨[], by omega, Nat.le_refl _, by omega, by omega, ⟨⟨cs, hcs, i0, i1, ?_, i18, i19⟩, by simp [st0]⟩, ?_, ?_, ⟨by simp, by simp⟩, rfl, rfl⟩, hbl⟩
      · intro j p hj
        have hj8 : j < 8 := by have := (List.getElem?_eq_some_iff.1 hj).1; simpa [st0] using this
        have hp : p = ⟨0, zeros⟩ := by
          have : (List.replicate 8 (⟨0, zeros⟩ : Pg))[j]? = some p := hj
          rw [List.getElem?_replicate, if_pos hj8] at this
          injection this with this; exact this.symm
        rw [hp]; exact hpg j hj8
      · exact (MapIs.made w _ 3 encJ).of_block (by rw [hm1]; exact (heap_alloc_new w _).symm)
      · have h9 := MapIs.made (w.alloc (.map #[] 0)) Try.prog 3 encN
        rw [World.size_alloc] at h9
        exact h9.of_block (by rw [hm2]; exact (blk_new1 w _ _).symm)
end Go.Proofs.Ytepkonhgkabkcaa
