/- The table's rows in the order of their numbers. Condition: the table reads as said. -/
import Derived.Test.YtohnfjincfippaaTabU
import Derived.Test.YtohnfjincfippaaKeys
namespace Go.Proofs.Ytohnfjincfippaa
open Go.RowKit Go.Maps MapI
set_option linter.unusedVariables false

def rowsOf (m : Txs) : List Tx := (m.map Prod.snd).filter fun x => decide (0 < x.last)
def rowCells (l : List Tx) : List Value := l.flatMap fun x => [.int .i64 x.txn, .int .i64 x.first, .int .i64 x.last]
theorem rowCells_length (l : List Tx) : (rowCells l).length = l.length * 3 := by
  induction l with
  | nil => rfl
  | cons x r ih => simp only [rowCells, List.flatMap_cons, List.length_append, List.length_cons, List.length_nil] at ih ⊢; omega
theorem rowsOf_snoc {m : Txs} {i : Nat} {p : Int × Tx} (h : m[i]? = some p) : rowsOf (m.take (i + 1)) = rowsOf (m.take i) ++ (if 0 < p.2.last then [p.2] else []) := by
  rw [List.take_add_one, h]
  simp only [rowsOf, Option.toList_some, List.map_append, List.filter_append, List.map_cons, List.map_nil]
  congr 1
  by_cases e : 0 < p.2.last <;> simp [e]
theorem rowsOf_le (m : Txs) : (rowsOf m).length ≤ m.length := by
  have := List.length_filter_le (fun x : Tx => decide (0 < x.last)) (m.map Prod.snd)
  simpa [rowsOf] using this
theorem infoRow : (Try.prog.info? 34).map (fun i => (i.zero, i.size, i.bytes)) = some (some (.agg #[.int .i64 0, .int .i64 0, .int .i64 0]), 3, 24) := by kernel_rfl

def RowsPost (w : World) (m : Txs) (r : Ending) (w' : World) : Prop :=
  ∃ v, r = .returned v ∧ w'.ownsRow w.heap.size 34 3 v (rowsOf m).length (rowCells (rowsOf m)) ∧ Below w.heap.size w w'

theorem rows_nil {w : World} {B tb mb : Nat} (ht : Tab w B tb mb []) : Calls Try.prog 9 #[ptr tb] w fun r w' => r = .returned (.slice none 0 0) ∧ Below w.heap.size w w' := by
  have h0 : w.cell? ⟨tb, 0, none⟩ = some (.map (some mb)) := by rw [cell_of_block ht.tab]; rfl
  have HS := Lib.hid (sorted_none ht.map rfl)
  go_enter Try.func9, Try.ntmps9
  go_wp2_with (first
    | (go_at_call 18; refine (keys_calls mb _).mono ?_; rintro e w' ⟨rfl, rfl⟩)
    | (go_at_call 17; refine HS.out.mono ?_; rintro e w1 ⟨rfl, hb⟩))
  refine wp_loop_rounds 1 ?_
  rw [rounds_succ]
  go_wp2
  go_ret
  exact ⟨rfl, ((Below.refl _ _).alloc (Nat.le_refl _) _).trans (hb.mono (by omega))⟩

set_option maxHeartbeats 2000000 in
theorem rows_calls {w : World} {B tb : Nat} {m : Txs} (h : TabAt w B tb m) (hlen : m.length ≤ 1000) :
    Calls Try.prog 9 #[ptr tb] w (RowsPost w m) := by
  obtain ⟨mb, l, ht, hml⟩ := h
  by_cases hl0 : l = []
  · subst hl0
    exact (rows_nil ht).mono fun r w' h => ⟨_, h.1, by rw [← hml]; exact World.ownsRow_nil _ _ _ _, h.2⟩
  have h0 : w.cell? ⟨tb, 0, none⟩ = some (.map (some mb)) := by rw [cell_of_block ht.tab]; rfl
  have hm := ht.map
  have hll : l.length = m.length := by rw [← hml, length_mapv]
  have htl := lt_of_block ht.tab
  have hpos : 0 < l.length := List.length_pos_iff.2 hl0
  have cS := sorted_some hm (by omega) hpos
  have HL := Lib.hid hml
  have HLL := Lib.hid hll
  have hle : l.length ≤ 1000 := by omega
  clear hml hll hl0
  have HS := Lib.hid cS
  clear cS
  go_enter Try.func9, Try.ntmps9
  go_wp2_with (first
    | (go_at_call 18; refine (keys_calls mb _).mono ?_; rintro e w' ⟨rfl, rfl⟩)
    | (go_at_call 17; refine HS.out.mono ?_; rintro e w1 ⟨g, cap, rfl, hrow, hb⟩))
  have hB1 : Below w.heap.size w w1 := ((Below.refl _ _).alloc (Nat.le_refl _) _).trans (hb.mono (by omega))
  go_loopw [2, 14] (fun lv iv wr => ∃ i : Nat, i ≤ l.length ∧ iv = .int .i64 i ∧ wr.ownsRow w.heap.size 34 3 lv (rowsOf (m.take i)).length (rowCells (rowsOf (m.take i))) ∧
      wr.ownsRow (w.heap.size + 1) 3 1 (.slice (some ⟨g, 0, none⟩) l.length cap) l.length ((l.map Prod.fst).map (Value.int .i64)) ∧ Below w.heap.size w wr)
    (fun _ iv _ => l.length - (intOf iv).toNat)
  case atStart => exact ⟨0, Nat.zero_le _, rfl, World.ownsRow_nil _ _ _ _, hrow, hB1⟩
  case round =>
    obtain ⟨i, hi, rfl, hlv, hkeys, hbw⟩ := hrel
    have htr := ht.below hbw
    have h0r : wr.cell? ⟨tb, 0, none⟩ = some (.map (some mb)) := by rw [cell_of_block htr.tab]; rfl
    have hmr := htr.map
    by_cases hlt : i < l.length
    · obtain ⟨⟨k, e⟩, hp⟩ : ∃ p, l[i]? = some p := ⟨_, List.getElem?_eq_getElem hlt⟩
      have hmem : (k, e) ∈ l := List.mem_of_getElem? hp
      have hg := get_of_mem ht.map.rises hmem
      have he := htr.ent _ hmem
      have hwf := (ht.wf _ hmem).2
      have ck : wr.cell? ⟨g, i, none⟩ = some (.int .i64 k) := by
        have := hkeys.cells (g := g) rfl i (.int .i64 k) (by simp [hp])
        rwa [show (⟨g, 0, none⟩ : Addr).add i = ⟨g, i, none⟩ from by unfold Addr.add; split <;> simp_all] at this
      have c0 : wr.cell? ⟨e.blk, 0, none⟩ = some (.int .i64 e.tx.txn) := by rw [cell_of_block he.blk]; rfl
      have c1 : wr.cell? ⟨e.blk, 1, none⟩ = some (.int .i64 e.tx.first) := by rw [cell_of_block he.blk]; rfl
      have c2 : wr.cell? ⟨e.blk, 2, none⟩ = some (.int .i64 e.tx.last) := by rw [cell_of_block he.blk]; rfl
      have hmp : m[i]? = some (k, e.tx) := by rw [← HL.out]; simp [mapv, hp]
      have hsn := rowsOf_snoc hmp
      have hrl : (rowsOf (m.take i)).length ≤ 1000 := by have := rowsOf_le (m.take i); have := List.length_take_le i m; omega
      have hws := hbw.size
      have HSn := Lib.hid hsn
      have HG := Lib.hid hg
      clear hg hp hmp hsn
      by_cases hpl : 0 < e.tx.last
      · obtain ⟨i0, hi0, hz0, hz1, hz2⟩ := info_parts infoRow
        go_wp2_with (first
          | (at_lookup; refine MapI.look _ rfl _ _ 44 47 rfl Try.underlying3 uMap (zeroPtr _) mb l rfl hmr k rfl hwf ?_; rw [HG.out]; simp only [Option.map_some, Option.getD_some, encE])
          | (at_builtin; refine wpList_append_lies _ rfl (.tmp 29) (.tmp 39) 31 rfl w.heap.size 34 i0 (.agg #[.int .i64 0, .int .i64 0, .int .i64 0]) 3 24 Try.underlying31 hi0 hz0 hz1 hz2 rfl (by decide) _ _ _ rfl (hlv.alloc _) ⟨wr.heap.size, 0, none⟩ 1 1 [.int .i64 e.tx.txn, .int .i64 e.tx.first, .int .i64 e.tx.last] rfl rfl (World.news_of_block (heap_alloc_new wr _)) (by simp [Value.oneCell']) (by decide) (by unfold maxLen; omega) (by omega) (by simp; omega) _ rfl ?_; intro g2 cap2 w2 hown2 hg2 hat2 hlt2))
        go_roundw
        case rel =>
          refine ⟨i + 1, by omega, by go_num, ?_, ?_, (hbw.alloc hws _).grown hg2 (by simp; omega) (fun k hk => (hlv.lt k hk).1)⟩
          · rw [HSn.out, if_pos hpl, List.length_append]
            simpa [rowCells] using hown2
          · have h1 := hkeys.alloc (.cells #[.int .i64 e.tx.txn, .int .i64 e.tx.first, .int .i64 e.tx.last] 34)
            refine ownsRow_block h1 (fun j hj => hg2.block j (h1.lt j hj).2 ?_)
            obtain ⟨cur, hc⟩ := own_type h1 hj
            exact blk_ne_own hc (hlv.alloc _) (by decide)
        case measure => simp [intOf]; omega
      · go_wp2_with (at_lookup; refine MapI.look _ rfl _ _ 44 47 rfl Try.underlying3 uMap (zeroPtr _) mb l rfl hmr k rfl hwf ?_; rw [HG.out]; simp only [Option.map_some, Option.getD_some, encE])
        go_roundw
        case rel => exact ⟨i + 1, by omega, by go_num, by rw [HSn.out, if_neg hpl, List.append_nil]; exact hlv, hkeys, hbw⟩
        case measure => simp [intOf]; omega
    · have hil : i = l.length := by omega
      have hmi : m.take i = m := List.take_of_length_le (by rw [hil, HLL.out]; exact Nat.le_refl _)
      rw [hmi] at hlv
      have HI := Lib.hid hil
      clear hil hmi
      go_wp2
      go_ret
      exact ⟨_, rfl, hlv, hbw⟩
end Go.Proofs.Ytohnfjincfippaa
