/- The table's calls that tell, and those of savepoints: what each answers and what the table is behind it. Condition: the table reads as said. -/
import Derived.Test.YtohnfjincfippaaTabW
import Derived.Deep.AppendLies
import Derived.Deep.RegionLaw
import Derived.BigRegion
import Derived.BigQuiet
import Derived.Deep.QuietTactic
namespace Go.Proofs.Ytohnfjincfippaa
open Go.RowKit Go.Maps MapI
set_option linter.unusedVariables false

def rowT (x : Tx) : Value := .agg #[.int .i64 x.txn, .int .i64 x.first, .int .i64 x.last]
def row0 : Value := .agg #[.int .i64 0, .int .i64 0, .int .i64 0]

set_option maxHeartbeats 400000 in
theorem row_some {w : World} {B tb : Nat} {m : Txs} {n : Int} {x : Tx} (h : TabAt w B tb m) (hwf : (Lit.int .i64 n).wf = true) (hx : get n m = some x) :
    Calls Try.prog 10 #[ptr tb, .int .i64 n] w fun r w' => r = .returned (.tuple #[rowT x, .int .i64 x.left, .int .i64 0]) ∧ Below w.heap.size w w' := by
  obtain ⟨mb, l, ht, hml⟩ := h
  have h0 : w.cell? ⟨tb, 0, none⟩ = some (.map (some mb)) := by rw [cell_of_block ht.tab]; rfl
  have hm := ht.map
  have hgm : get n m = (get n l).map Ent.tx := by rw [← hml, get_mapv]
  rw [hgm] at hx
  obtain ⟨e, hg, hex⟩ := Option.map_eq_some_iff.1 hx
  have he := ht.get_mem hg
  have hlt := he.lt
  have htl := lt_of_block ht.tab
  have c0 : w.cell? ⟨e.blk, 0, none⟩ = some (.int .i64 e.tx.txn) := by rw [cell_of_block he.blk]; rfl
  have c1 : w.cell? ⟨e.blk, 1, none⟩ = some (.int .i64 e.tx.first) := by rw [cell_of_block he.blk]; rfl
  have c2 : w.cell? ⟨e.blk, 2, none⟩ = some (.int .i64 e.tx.last) := by rw [cell_of_block he.blk]; rfl
  have c3 : w.cell? ⟨e.blk, 3, none⟩ = some (.int .i64 e.tx.left) := by rw [cell_of_block he.blk]; rfl
  subst hex
  have hm1 : MapIs Try.prog 3 encE (w.alloc (.cells #[.int .i64 0, .int .i64 0, .int .i64 0] 34)) mb l := hm.kept (World.grownBy_alloc _ _ none) (by simp)
  have h01 : (w.alloc (.cells #[.int .i64 0, .int .i64 0, .int .i64 0] 34)).cell? ⟨tb, 0, none⟩ = some (.map (some mb)) := by rw [World.cell?_alloc_lt _ _ _ (by exact htl)]; exact h0
  clear hgm hx hm h0
  go_enter Try.func10, Try.ntmps10
  go_wp2_with (go_at_call 16; refine (find_some h01 hm1 hwf hg).mono ?_; rintro e w' ⟨rfl, rfl⟩)
  go_region
  go_wp2
  exact bodyPost_ret (v := .tuple #[rowT e.tx, .int .i64 e.tx.left, .int .i64 0]) (by simp [results, Try.results10, go_sem, rowT]) rfl ⟨rfl, ((Below.refl _ _).alloc (Nat.le_refl _) _).drew⟩

set_option maxHeartbeats 400000 in
theorem row_none {w : World} {B tb : Nat} {m : Txs} {n : Int} (h : TabAt w B tb m) (hwf : (Lit.int .i64 n).wf = true) (hx : get n m = none) :
    Calls Try.prog 10 #[ptr tb, .int .i64 n] w fun r w' => r = .returned (.tuple #[row0, .int .i64 0, .int .i64 7]) ∧ Below w.heap.size w w' := by
  obtain ⟨mb, l, ht, hml⟩ := h
  have h0 : w.cell? ⟨tb, 0, none⟩ = some (.map (some mb)) := by rw [cell_of_block ht.tab]; rfl
  have hm := ht.map
  have hgm : get n m = (get n l).map Ent.tx := by rw [← hml, get_mapv]
  rw [hgm] at hx
  have hg : get n l = none := by simpa using hx
  have htl := lt_of_block ht.tab
  have hm1 : MapIs Try.prog 3 encE (w.alloc (.cells #[.int .i64 0, .int .i64 0, .int .i64 0] 34)) mb l := hm.kept (World.grownBy_alloc _ _ none) (by simp)
  have h01 : (w.alloc (.cells #[.int .i64 0, .int .i64 0, .int .i64 0] 34)).cell? ⟨tb, 0, none⟩ = some (.map (some mb)) := by rw [World.cell?_alloc_lt _ _ _ (by exact htl)]; exact h0
  clear hgm hx hm h0
  go_enter Try.func10, Try.ntmps10
  go_wp2_with (go_at_call 16; refine (find_none h01 hm1 hwf hg).mono ?_; rintro e w' ⟨rfl, rfl⟩)
  exact bodyPost_ret (v := .tuple #[row0, .int .i64 0, .int .i64 7]) (by simp [results, Try.results10, go_sem, row0]) rfl ⟨rfl, (Below.refl _ _).alloc (Nat.le_refl _) _⟩

theorem infoMark : (Try.prog.info? 59).map (fun i => (i.zero, i.size, i.bytes)) = some (some (.agg #[.int .i64 0, .int .i64 0]), 2, 16) := by kernel_rfl

/-! ### savepoints: as far as the laws go: the first one, and back at it -/
def markM (n : Int) (m : Txs) : Txs := upd n (fun x => { x with marks := x.marks ++ [(x.last, x.left)] }) m

theorem pw_below_drewN' {B : Nat} {w W : World} (h : Below B w W) (n : Nat) : Below B w (W.drewN n) := ⟨h.os, h.tape, h.output, h.size, h.block⟩

theorem Tab.marked {w w1 : World} {B tb mb : Nat} {l : List (Int × Ent)} {n : Int} {e : Ent} {A : Option Addr} {C g cap : Nat} {o : Obj} (ht : Tab w B tb mb l) (hB : B ≤ w.heap.size) (hg : get n l = some e) (hx0 : e.tx.marks = [])
    (hv : e.mv = .slice A 0 C) (hown : w.ownsRow B 59 2 (.slice A 0 C) 0 []) (hgr : (w.alloc o).drew.grownBy w1 (Value.slice A 0 C).ownBlock)
    (ho : w1.ownsRow B 59 2 (.slice (some ⟨g, 0, none⟩) (0 + 1) cap) (0 + 1) ([] ++ [.int .i64 e.tx.last, .int .i64 e.tx.left])) (hat : (Value.slice A 0 C).ownBlock = some g ∨ g = w.heap.size.succ) :
    TabAt (w1.setCell ⟨e.blk, 4, none⟩ (.slice (some ⟨g, 0, none⟩) 1 cap)) B tb (markM n (mapv Ent.tx l)) ∧ Below B w (w1.setCell ⟨e.blk, 4, none⟩ (.slice (some ⟨g, 0, none⟩) 1 cap)) := by
  have he := ht.get_mem hg
  have hlt := he.lt
  have hbo : some e.blk ≠ Value.ownBlock (.slice A 0 C) := blk_ne_own he.blk hown (by decide)
  have hgb : e.blk ≠ g := by
    rcases hat with h | rfl
    · intro h1; exact hbo (by rw [h, h1])
    · intro h1; rw [h1] at hlt; exact absurd hlt (by simp)
  have hblk : ∀ k, k < w.heap.size → some k ≠ (Value.slice A 0 C).ownBlock → w1.heap[k]? = w.heap[k]? := fun k hk hne => by
    rw [hgr.block k (by simp; omega) hne]; exact Below.heap_alloc _ _ _ hk
  have hb1 : w1.heap[e.blk]? = some (.cells (entCells e) tX (0, 0)) := (hblk _ hlt hbo).trans he.blk
  refine ⟨ht.turnedAt (g := fun x => { x with marks := x.marks ++ [(x.last, x.left)] }) (e' := ⟨e.blk, .slice (some ⟨g, 0, none⟩) 1 cap, { e.tx with marks := e.tx.marks ++ [(e.tx.last, e.tx.left)] }⟩) hg rfl rfl rfl (fun k hk h1 h2 => ?_) ⟨he.ge, ?_, ?_⟩ ?_, ?_⟩
  · rw [Below.heap_setCell _ _ _ _ h1]; exact hblk k hk (by rw [← hv]; exact h2)
  · rw [setCell_block _ _ _ _ hb1]; simp [entCells]
  · refine ownsRow_block (w := w1) (by rw [hx0]; simpa [markCells] using ho) (fun k hk => ?_)
    have : g = k := by simpa [Value.ownBlock] using hk
    subst this
    exact Below.heap_setCell _ _ _ _ (Ne.symm hgb)
  · rcases hat with h | rfl
    · exact .inr (.inl (by rw [hv, h]; rfl))
    · exact .inr (.inr ⟨_, rfl, Nat.le_succ _⟩)
  · refine Below.setCell ?_ he.ge _
    refine ((Below.refl B w).alloc hB o).drew.grown hgr (by simp; omega) (fun k hk => ?_)
    exact (hown.lt k hk).1

set_option maxHeartbeats 1000000 in
/-- The first savepoint of a transaction. -/
theorem mark_first {w : World} {B tb : Nat} {m : Txs} {n : Int} {x : Tx} (h : TabAt w B tb m) (hB : B ≤ w.heap.size) (hwf : (Lit.int .i64 n).wf = true) (hx : get n m = some x) (hx0 : x.marks = []) :
    Calls Try.prog 12 #[ptr tb, .int .i64 n, .int .i64 x.left] w fun r w' => r = .returned (.tuple #[.int .i64 0, .int .i64 0]) ∧ TabAt w' B tb (markM n m) ∧ Below B w w' := by
  obtain ⟨mb, l, ht, hml⟩ := h
  have h0 : w.cell? ⟨tb, 0, none⟩ = some (.map (some mb)) := by rw [cell_of_block ht.tab]; rfl
  have hm := ht.map
  have hgm : get n m = (get n l).map Ent.tx := by rw [← hml, get_mapv]
  rw [hgm] at hx
  obtain ⟨e, hg, hex⟩ := Option.map_eq_some_iff.1 hx
  have he := ht.get_mem hg
  have hge := he.ge
  have hlt := he.lt
  have htl := lt_of_block ht.tab
  subst hex
  have hown := he.own
  rw [hx0] at hown
  obtain ⟨A, C, hv⟩ : ∃ A C, e.mv = .slice A 0 C := by
    rcases hown.2 with ⟨h1, _⟩ | ⟨g, cap, cur, h1, _⟩
    · exact ⟨_, _, h1⟩
    · exact ⟨_, _, h1⟩
  have c2 : w.cell? ⟨e.blk, 2, none⟩ = some (.int .i64 e.tx.last) := by rw [cell_of_block he.blk]; rfl
  have c3 : w.cell? ⟨e.blk, 3, none⟩ = some (.int .i64 e.tx.left) := by rw [cell_of_block he.blk]; rfl
  have c4 : w.cell? ⟨e.blk, 4, none⟩ = some (.slice A 0 C) := by rw [cell_of_block he.blk, ← hv]; rfl
  have f4 : w.frozen? ⟨e.blk, 4, none⟩ = false := frozen_of_block he.blk 4
  clear hgm hx
  obtain ⟨i0, hi, hz0, hz1, hz2⟩ := info_parts infoMark
  have hownS : w.ownsRow B 59 2 (.slice A 0 C) 0 [] := by rw [← hv]; exact hown
  have hbo : some e.blk ≠ Value.ownBlock (.slice A 0 C) := blk_ne_own he.blk hownS (by decide)
  go_enter Try.func12, Try.ntmps12
  go_wp2_with (go_at_call 16; refine (find_some h0 hm hwf hg).mono ?_; rintro e w' ⟨rfl, rfl⟩)
  go_region_law (refine step_append_lies _ rfl (.tmp 38) (.tmp 46) 50 rfl B 59 i0 (.agg #[.int .i64 0, .int .i64 0]) 2 16 Try.underlying50 hi hz0 hz1 hz2 rfl (by decide) (.slice A 0 C) 0 [] rfl (hownS.alloc _) ⟨w.heap.size, 0, none⟩ 1 1 [.int .i64 e.tx.last, .int .i64 e.tx.left] rfl rfl (World.news_of_block (heap_alloc_new w _)) (by simp [Value.oneCell']) (by decide) (by decide) (by decide) (by simp; omega) w.heap.size.succ (by simp) ?_; intro g cap w1 ho1 hg1 hat1 hlt1; have c41 : w1.cell? ⟨e.blk, 4, none⟩ = some (.slice A 0 C) := hg1.cell (a := ⟨e.blk, 4, none⟩) (by rw [World.cell?_drew, World.cell?_alloc_lt _ _ _ hlt]; exact c4) hbo; have f41 : w1.frozen? ⟨e.blk, 4, none⟩ = false := by rw [hg1.frozen_far ⟨e.blk, 4, none⟩ (by simp; omega) hbo, World.frozen?_drew, World.frozen?_alloc_old _ _ _ (by simp; omega)]; exact f4)
  all_goals go_wp2
  all_goals go_ret2
  all_goals
    refine ⟨rfl, ?_⟩
    rw [← hml]
    exact ht.marked hB hg hx0 hv hownS hg1 ho1 hat1

def backM (n : Int) (m : Txs) : Txs := upd n (fun x => { x with marks := x.marks.take 1 }) m
set_option maxHeartbeats 1000000 in
/-- Back at the first savepoint. -/
theorem back_first {w : World} {B tb : Nat} {m : Txs} {n : Int} {x : Tx} {p : Int × Int} (h : TabAt w B tb m) (hB : B ≤ w.heap.size) (hwf : (Lit.int .i64 n).wf = true) (hx : get n m = some x) (hx0 : x.marks = [p]) :
    Calls Try.prog 14 #[ptr tb, .int .i64 n, .int .i64 0] w fun r w' => r = .returned (.tuple #[.int .i64 p.1, .int .i64 p.2, .int .i64 0]) ∧ TabAt w' B tb m ∧ Below B w w' := by
  obtain ⟨mb, l, ht, hml⟩ := h
  have h0 : w.cell? ⟨tb, 0, none⟩ = some (.map (some mb)) := by rw [cell_of_block ht.tab]; rfl
  have hm := ht.map
  have hgm : get n m = (get n l).map Ent.tx := by rw [← hml, get_mapv]
  rw [hgm] at hx
  obtain ⟨e, hg, hex⟩ := Option.map_eq_some_iff.1 hx
  have he := ht.get_mem hg
  have hge := he.ge
  have hlt := he.lt
  have htl := lt_of_block ht.tab
  subst hex
  have hown := he.own
  rw [hx0] at hown
  obtain ⟨g, cap, hv, hBg, hgl⟩ := hown.form (by simp)
  have hcap : 1 ≤ cap ∧ cap ≤ maxLen := by
    rcases hown.2 with ⟨_, h1⟩ | ⟨g', cap', cur, h1, _, _, h2, h3, _⟩
    · simp at h1
    · rw [hv] at h1; injection h1 with h4 h5 h6; subst h6; exact ⟨by simpa using h2, h3⟩
  have hcap1 := hcap.1
  have hcap2 := hcap.2
  unfold maxLen at hcap2
  have c4 : w.cell? ⟨e.blk, 4, none⟩ = some (.slice (some ⟨g, 0, none⟩) 1 cap) := by rw [cell_of_block he.blk]; show some e.mv = _; rw [hv]; rfl
  have f4 : w.frozen? ⟨e.blk, 4, none⟩ = false := frozen_of_block he.blk 4
  have hgb : e.blk ≠ g := fun h1 => by
    have := blk_ne_own he.blk hown (by decide)
    rw [hv] at this
    exact this (by rw [h1]; rfl)
  have hgo : e.mv.ownBlock = some g := by rw [hv]; rfl
  have d0 : w.cell? ⟨g, 0, none⟩ = some (.int .i64 p.1) := hown.cells hgo 0 _ (by simp [markCells])
  have d1 : w.cell? ⟨g, 1, none⟩ = some (.int .i64 p.2) := hown.cells hgo 1 _ (by simp [markCells])
  clear hgm hx hgo
  go_enter Try.func14, Try.ntmps14
  go_wp2_with (go_at_call 16; refine (find_some h0 hm hwf hg).mono ?_; rintro e w' ⟨rfl, rfl⟩)
  go_quiet (fail)
  go_wp2
  go_ret3
  have hb : Below w.heap.size w (w.setCell ⟨e.blk, 4, none⟩ (.slice (some ⟨g, 0, none⟩) 1 cap)) := by
    refine ⟨rfl, rfl, rfl, by simp [World.setCell], fun k hk => ?_⟩
    by_cases h1 : k = e.blk
    · subst h1
      rw [setCell_block _ _ _ _ he.blk, he.blk]
      have : e.mv = .slice (some ⟨g, 0, none⟩) 1 cap := hv
      simp [entCells, this]
    · exact Below.heap_setCell _ _ _ _ h1
  refine ⟨rfl, ?_, ?_⟩
  · rw [← hml]
    exact ⟨mb, l, ht.below (by first | exact hb | exact pw_below_drewN' hb _), rfl⟩
  · have := hb.mono hB
    first | exact this | exact pw_below_drewN' this _
end Go.Proofs.Ytohnfjincfippaa
