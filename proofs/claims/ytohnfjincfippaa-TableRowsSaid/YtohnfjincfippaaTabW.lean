/- The table's calls: what each answers and what the table is behind it. Condition: the table reads as said. -/
import Derived.Test.YtohnfjincfippaaTab
import Derived.WalkLawsBesides
import Derived.WalkSpells
import Derived.Outline
import Derived.Deep.DeepFit
namespace Go.Proofs.Ytohnfjincfippaa
open Go.RowKit Go.Maps MapI
set_option linter.unusedVariables false

theorem zeroPtr (w : World) : (zeroValue 47).run Try.prog w = .ok (.pointer none) w := by kernel_rfl
theorem uMap : Try.prog.underlying 44 = some (.map 3 47) := Try.underlying44
abbrev ptr (b : Nat) : Value := .pointer (some ⟨b, 0, none⟩)

theorem find_some {w : World} {tb mb n : _} {l : List (Int × Ent)} {e : Ent} (h0 : w.cell? ⟨tb, 0, none⟩ = some (.map (some mb)))
    (hm : MapIs Try.prog 3 encE w mb l) (hwf : (Lit.int .i64 n).wf = true) (hg : get n l = some e) :
    Calls Try.prog 16 #[ptr tb, .int .i64 n] w fun r w' => r = .returned (.tuple #[ptr e.blk, .int .i64 0]) ∧ w = w' := by
  have Hg := Lib.hid hg; clear hg
  go_enter Try.func16, Try.ntmps16
  go_wp2_with (at_lookup; refine MapI.look_ok _ rfl _ _ 44 47 rfl Try.underlying3 uMap (zeroPtr _) mb l rfl hm n rfl hwf ?_; rw [Hg.out]; simp only [Option.map_some, Option.getD_some, Option.isSome_some, encE])
  go_ret2
  exact ⟨rfl, rfl⟩
theorem find_none {w : World} {tb mb n : _} {l : List (Int × Ent)} (h0 : w.cell? ⟨tb, 0, none⟩ = some (.map (some mb)))
    (hm : MapIs Try.prog 3 encE w mb l) (hwf : (Lit.int .i64 n).wf = true) (hg : get n l = none) :
    Calls Try.prog 16 #[ptr tb, .int .i64 n] w fun r w' => r = .returned (.tuple #[.pointer none, .int .i64 7]) ∧ w = w' := by
  have Hg := Lib.hid hg; clear hg
  go_enter Try.func16, Try.ntmps16
  go_wp2_with (at_lookup; refine MapI.look_ok _ rfl _ _ 44 47 rfl Try.underlying3 uMap (zeroPtr _) mb l rfl hm n rfl hwf ?_; rw [Hg.out]; simp only [Option.map_none, Option.getD_none, Option.isSome_none])
  go_ret2
  exact ⟨rfl, rfl⟩

theorem new_calls (w : World) : Calls Try.prog 5 #[] w fun r w' => r = .returned (ptr (w.heap.size + 1)) ∧ TabAt w' w.heap.size (w.heap.size + 1) [] ∧ Below w.heap.size w w' := by
  have hmm := @run_makeMap Try.prog
  go_enter Try.func5, Try.ntmps5
  go_wp2
  go_ret
  refine ⟨rfl, ⟨w.heap.size, [], ⟨by omega, Nat.le_refl _, ?_, ?_, by simp, by simp, by simp⟩, rfl⟩, ((Below.refl _ _).alloc (Nat.le_refl _) _).alloc (by simp) _⟩
  · rw [← World.size_alloc w (.map #[] 0)]; exact heap_alloc_new _ _
  · exact (MapIs.made w _ 3 encE).kept (World.grownBy_alloc _ _ none) (by simp)

theorem ret_eq {k : IntKind} {a b : Int} (h : a = b) : Ending.returned (.int k a) = .returned (.int k b) := by rw [h]
theorem begin_no {n c : Int} {m : Txs} (h : beginE n m = c) (h0 : c ≠ 0) : beginM n m = m := by unfold beginM; rw [if_neg (by omega)]
theorem begin_yes {n : Int} {m : Txs} (h : beginE n m = 0) : beginM n m = put n ⟨n, 0, 0, 0, []⟩ m := if_pos h

/-- Behind the store of a new transaction in block x. -/
theorem Tab.begun {w w' : World} {B tb mb x : Nat} {l : List (Int × Ent)} {n : Int} (ht : Tab w B tb mb l) (hg : get n l = none) (hwf : (Lit.int .i64 n).wf = true) (hx : B ≤ x) (hx1 : w.heap.size ≤ x)
    (hm : MapIs Try.prog 3 encE w' mb (put n ⟨x, .slice none 0 0, ⟨n, 0, 0, 0, []⟩⟩ l)) (hb : ∀ k, k < w.heap.size → k ≠ mb → w'.heap[k]? = w.heap[k]?)
    (hxx : w'.heap[x]? = some (.cells #[.int .i64 n, .int .i64 0, .int .i64 0, .int .i64 0, .slice none 0 0] tX (0, 0))) : TabAt w' B tb (put n ⟨n, 0, 0, 0, []⟩ (mapv Ent.tx l)) := by
  have hne : ∀ {k : Nat} {cs : Array Value} {t : Nat}, w.heap[k]? = some (.cells cs t (0, 0)) → w'.heap[k]? = w.heap[k]? := fun {k cs t} h => by
    refine hb k (lt_of_block h) ?_
    rintro rfl
    obtain ⟨es, c, h2⟩ := ht.map.heap
    rw [h2] at h; cases h
  refine ⟨mb, _, ⟨ht.hB, ht.hMb, (hne ht.tab).trans ht.tab, hm, fun p hp => ?_, ?_, fun p hp => ?_⟩, mapv_put Ent.tx n _ l⟩
  · rcases mem_put.1 hp with rfl | ⟨hp, _⟩
    · exact ⟨hx, hxx, World.ownsRow_nil _ _ _ _⟩
    · have he := ht.ent p hp
      refine he.of_block (hne he.blk) (fun k hk => ?_)
      rcases he.own.2 with ⟨h1, _⟩ | ⟨g, cap, cur, h1, _, h2, _⟩
      · rw [h1] at hk; simp [Value.ownBlock] at hk
      · rw [h1] at hk
        have : g = k := by simpa [Value.ownBlock] using hk
        subst this
        exact hne h2
  · have hlt : ∀ p ∈ l, p.2.blk < x := fun p hp => Nat.lt_of_lt_of_le (ht.ent p hp).lt hx1
    unfold put
    rw [del_of_none hg]
    clear hm hg hb hxx
    have ha := ht.apart
    clear ht hne
    induction l with
    | nil => simp [ins]
    | cons y r ih =>
      obtain ⟨h1, h2⟩ := List.pairwise_cons.1 ha
      unfold ins
      split
      · refine List.pairwise_cons.2 ⟨fun q hq => ⟨fun e => ?_, .inl rfl⟩, ha⟩
        have := hlt q hq; dsimp only at e; omega
      · refine List.pairwise_cons.2 ⟨fun q hq => ?_, ih (fun p hp => hlt p (by simp [hp])) h2⟩
        rcases mem_ins.1 hq with rfl | hq
        · have := hlt y (by simp)
          exact Off.symm ⟨fun e => by dsimp only at e; omega, .inl rfl⟩
        · exact h1 q hq
  · rcases mem_put.1 hp with rfl | ⟨hp, _⟩
    · exact ⟨rfl, hwf⟩
    · exact ht.wf p hp

set_option maxHeartbeats 400000 in
theorem begin_calls {w : World} {B tb : Nat} {m : Txs} {n : Int} (h : TabAt w B tb m) (hB : B ≤ w.heap.size) (hwf : (Lit.int .i64 n).wf = true) :
    Calls Try.prog 6 #[ptr tb, .int .i64 n] w fun r w' => r = .returned (.int .i64 (beginE n m)) ∧ TabAt w' B tb (beginM n m) ∧ Below B w w' := by
  have hT := h
  obtain ⟨mb, l, ht, hml⟩ := h
  have h0 : w.cell? ⟨tb, 0, none⟩ = some (.map (some mb)) := by rw [cell_of_block ht.tab]; rfl
  have hm := ht.map
  have hgm : get n m = (get n l).map Ent.tx := by rw [← hml, get_mapv]
  have hlm : m.length = l.length := by rw [← hml, length_mapv]
  by_cases hn : n < 1 ∨ n > 2147483647
  · have hE : beginE n m = 1 := if_pos hn
    have HM := Lib.hid (begin_no hE (by omega))
    have HE := Lib.hid hE
    have hp : n < 1 ∨ (¬ n < 1 ∧ 2147483647 < n) := by omega
    clear hn hE hgm hlm hml
    cases hg : get n l with
    | none =>
      rcases hp with h1 | ⟨h1, h2⟩ <;>
      (go_enter Try.func6, Try.ntmps6
       go_wp2_with (go_at_call 16; refine (find_none h0 hm hwf (by assumption)).mono ?_; rintro e w' ⟨rfl, rfl⟩)
       go_ret
       exact ⟨ret_eq HE.out.symm, by rw [HM.out]; exact hT, Below.refl _ _⟩)
    | some e =>
      rcases hp with h1 | ⟨h1, h2⟩ <;>
      (go_enter Try.func6, Try.ntmps6
       go_wp2_with (go_at_call 16; refine (find_some h0 hm hwf (by assumption)).mono ?_; rintro e w' ⟨rfl, rfl⟩)
       go_ret
       exact ⟨ret_eq HE.out.symm, by rw [HM.out]; exact hT, Below.refl _ _⟩)
  · have h1 : 1 ≤ n := by omega
    have h2 : n ≤ 2147483647 := by omega
    cases hg : get n l with
    | some e =>
      have hE : beginE n m = 9 := by unfold beginE; rw [if_neg hn, hgm, hg]; rfl
      have HM := Lib.hid (begin_no hE (by omega))
      have HE := Lib.hid hE
      clear hn hE hgm hlm hml
      go_enter Try.func6, Try.ntmps6
      go_wp2_with (go_at_call 16; refine (find_some h0 hm hwf (by assumption)).mono ?_; rintro e w' ⟨rfl, rfl⟩)
      go_ret
      exact ⟨ret_eq HE.out.symm, by rw [HM.out]; exact hT, Below.refl _ _⟩
    | none =>
      by_cases h4 : 4 ≤ l.length
      · have hE : beginE n m = 5 := by unfold beginE; rw [if_neg hn, hgm, hg, hlm]; simp [h4]
        have HM := Lib.hid (begin_no hE (by omega))
        have HE := Lib.hid hE
        clear hn hE hgm hlm hml
        go_enter Try.func6, Try.ntmps6
        go_wp2_with (first
          | (go_at_call 16; refine (find_none h0 hm hwf (by assumption)).mono ?_; rintro e w' ⟨rfl, rfl⟩)
          | (at_len; refine MapI.length _ rfl _ 44 47 rfl uMap mb l rfl hm ?_))
        go_ret
        exact ⟨ret_eq HE.out.symm, by rw [HM.out]; exact hT, Below.refl _ _⟩
      · have hE : beginE n m = 0 := by unfold beginE; rw [if_neg hn, hgm, hg, hlm]; simp [h4]
        have HM := Lib.hid (begin_yes hE)
        have HE := Lib.hid hE
        have HL := Lib.hid hml
        clear hn hE hgm hlm hml
        go_enter Try.func6, Try.ntmps6
        go_wp2_with (first
          | (go_at_call 16; refine (find_none h0 hm hwf (by assumption)).mono ?_; rintro e w' ⟨rfl, rfl⟩)
          | (at_len; refine MapI.length _ rfl _ 44 47 rfl uMap mb l rfl hm ?_)
          | (at_mapUpdate; refine MapI.store _ rfl _ _ _ 44 47 rfl Try.underlying3 uMap mb l rfl (hm.kept (World.grownBy_alloc _ _ none) (by simp)) (by unfold maxLen; omega) n rfl hwf ⟨w.heap.size, .slice none 0 0, ⟨n, 0, 0, 0, []⟩⟩ rfl ?_; intro w1 hm1 ht1))
        go_ret
        have hgr := ht1.grown
        have hlt : mb < w.heap.size := ht.map.lt
        refine ⟨ret_eq HE.out.symm, ?_, ((Below.refl B w).alloc hB _).grown hgr (by simp; omega) (fun k e => by cases e; exact ht.hMb)⟩
        rw [HM.out, ← HL.out]
        refine ht.begun hg hwf hB (Nat.le_refl _) hm1 (fun k hk hne => ?_) ?_
        · rw [hgr.block k (by simp; omega) (by simpa using hne)]; exact Below.heap_alloc _ _ _ hk
        · rw [hgr.block w.heap.size (by simp) (by simp; omega)]; exact heap_alloc_new _ _

theorem log_no {n a c : Int} {m : Txs} (h : logE n a m = c) (h0 : c ≠ 0) : logM n a m = m := by unfold logM; rw [if_neg (by omega)]
theorem log_yes {n a : Int} {m : Txs} (h : logE n a m = 0) : logM n a m = upd n (logT a) m := if_pos h
theorem setCell_block (w : World) (b i : Nat) (v : Value) {cs : Array Value} {t : Nat} (h : w.heap[b]? = some (.cells cs t (0, 0))) : (w.setCell ⟨b, i, none⟩ v).heap[b]? = some (.cells (cs.setIfInBounds i v) t (0, 0)) := by
  simp only [World.setCell, Array.getElem?_modify, if_true, h, Option.map_some]
  rfl

set_option maxHeartbeats 400000 in
theorem log_calls {w : World} {B tb : Nat} {m : Txs} {n a : Int} (h : TabAt w B tb m) (hB : B ≤ w.heap.size) (hwf : (Lit.int .i64 n).wf = true) :
    Calls Try.prog 7 #[ptr tb, .int .i64 n, .int .i64 a] w fun r w' => r = .returned (.int .i64 (logE n a m)) ∧ TabAt w' B tb (logM n a m) ∧ Below B w w' := by
  have hT := h
  obtain ⟨mb, l, ht, hml⟩ := h
  have h0 : w.cell? ⟨tb, 0, none⟩ = some (.map (some mb)) := by rw [cell_of_block ht.tab]; rfl
  have hm := ht.map
  have hgm : get n m = (get n l).map Ent.tx := by rw [← hml, get_mapv]
  cases hg : get n l with
  | none =>
    have hE : logE n a m = 7 := by unfold logE; rw [hgm, hg]; rfl
    have HM := Lib.hid (log_no hE (by omega))
    have HE := Lib.hid hE
    clear hE hgm hml
    go_enter Try.func7, Try.ntmps7
    go_wp2_with (go_at_call 16; refine (find_none h0 hm hwf (by assumption)).mono ?_; rintro e w' ⟨rfl, rfl⟩)
    go_ret
    exact ⟨ret_eq HE.out.symm, by rw [HM.out]; exact hT, Below.refl _ _⟩
  | some e =>
    have he := ht.get_mem hg
    have c1 : w.cell? ⟨e.blk, 1, none⟩ = some (.int .i64 e.tx.first) := by rw [cell_of_block he.blk]; rfl
    have c2 : w.cell? ⟨e.blk, 2, none⟩ = some (.int .i64 e.tx.last) := by rw [cell_of_block he.blk]; rfl
    have f1 : w.frozen? ⟨e.blk, 1, none⟩ = false := frozen_of_block he.blk 1
    have f2 : w.frozen? ⟨e.blk, 2, none⟩ = false := frozen_of_block he.blk 2
    by_cases ha : a ≤ e.tx.last
    · have hE : logE n a m = 1 := by unfold logE; rw [hgm, hg]; exact if_pos ha
      have HM := Lib.hid (log_no hE (by omega))
      have HE := Lib.hid hE
      clear hE hgm hml
      go_enter Try.func7, Try.ntmps7
      go_wp2_with (go_at_call 16; refine (find_some h0 hm hwf (by assumption)).mono ?_; rintro e w' ⟨rfl, rfl⟩)
      go_ret
      exact ⟨ret_eq HE.out.symm, by rw [HM.out]; exact hT, Below.refl _ _⟩
    · have hE : logE n a m = 0 := by unfold logE; rw [hgm, hg]; exact if_neg ha
      have HM := Lib.hid (log_yes hE)
      have HE := Lib.hid hE
      have HL := Lib.hid hml
      clear hE hgm hml
      have hge := he.ge
      by_cases hf : e.tx.first = 0
      · have hf1 : (e.tx.first == 0) = true := by simp [hf]
        have hx : EntIs ((w.setCell ⟨e.blk, 1, none⟩ (.int .i64 a)).setCell ⟨e.blk, 2, none⟩ (.int .i64 a)) B { e with tx := logT a e.tx } := by
          refine ⟨he.ge, ?_, ownsRow_block he.own (fun k hk => ?_)⟩
          · rw [setCell_block _ _ _ _ (setCell_block _ _ _ _ he.blk)]; simp [entCells, logT, hf]
          · have : k ≠ e.blk := fun e1 => blk_ne_own he.blk he.own (by decide) (by rw [← e1]; exact hk.symm)
            rw [Below.heap_setCell _ _ _ _ this, Below.heap_setCell _ _ _ _ this]
        have HF := Lib.hid hf
        clear hf
        go_enter Try.func7, Try.ntmps7
        go_wp2_with (go_at_call 16; refine (find_some h0 hm hwf (by assumption)).mono ?_; rintro e w' ⟨rfl, rfl⟩)
        go_ret
        refine ⟨ret_eq HE.out.symm, ?_, ((Below.refl B w).setCell hge _).setCell hge _⟩
        rw [HM.out, ← HL.out]
        exact ht.turnedAt hg (e' := { e with tx := logT a e.tx }) rfl rfl rfl (fun k _ hk _ => by rw [Below.heap_setCell _ _ _ _ hk, Below.heap_setCell _ _ _ _ hk]) hx (.inr (.inl rfl))
      · have hf1 : (e.tx.first == 0) = false := by simp [hf]
        have hx : EntIs (w.setCell ⟨e.blk, 2, none⟩ (.int .i64 a)) B { e with tx := logT a e.tx } := by
          refine ⟨he.ge, ?_, ownsRow_block he.own (fun k hk => ?_)⟩
          · rw [setCell_block _ _ _ _ he.blk]; simp [entCells, logT, hf]
          · have : k ≠ e.blk := fun e1 => blk_ne_own he.blk he.own (by decide) (by rw [← e1]; exact hk.symm)
            rw [Below.heap_setCell _ _ _ _ this]
        have HF := Lib.hid hf
        clear hf
        go_enter Try.func7, Try.ntmps7
        go_wp2_with (go_at_call 16; refine (find_some h0 hm hwf (by assumption)).mono ?_; rintro e w' ⟨rfl, rfl⟩)
        go_ret
        refine ⟨ret_eq HE.out.symm, ?_, (Below.refl B w).setCell hge _⟩
        rw [HM.out, ← HL.out]
        exact ht.turnedAt hg (e' := { e with tx := logT a e.tx }) rfl rfl rfl (fun k _ hk _ => by rw [Below.heap_setCell _ _ _ _ hk]) hx (.inr (.inl rfl))

theorem end_calls {w : World} {B tb : Nat} {m : Txs} {n : Int} (h : TabAt w B tb m) (hB : B ≤ w.heap.size) (hwf : (Lit.int .i64 n).wf = true) :
    Calls Try.prog 8 #[ptr tb, .int .i64 n] w fun r w' => r = .returned (.int .i64 (endE n m)) ∧ TabAt w' B tb (del n m) ∧ Below B w w' := by
  have hT := h
  obtain ⟨mb, l, ht, hml⟩ := h
  have h0 : w.cell? ⟨tb, 0, none⟩ = some (.map (some mb)) := by rw [cell_of_block ht.tab]; rfl
  have hm := ht.map
  have hgm : get n m = (get n l).map Ent.tx := by rw [← hml, get_mapv]
  cases hg : get n l with
  | none =>
    have hE : endE n m = 7 := by unfold endE; rw [hgm, hg]; rfl
    have HM := Lib.hid (del_of_none (k := n) (l := m) (by rw [hgm, hg]; rfl))
    have HE := Lib.hid hE
    clear hE hgm hml
    go_enter Try.func8, Try.ntmps8
    go_wp2_with (go_at_call 16; refine (find_none h0 hm hwf (by assumption)).mono ?_; rintro e w' ⟨rfl, rfl⟩)
    go_ret
    exact ⟨ret_eq HE.out.symm, by rw [HM.out]; exact hT, Below.refl _ _⟩
  | some e =>
    have hE : endE n m = 0 := by unfold endE; rw [hgm, hg]; rfl
    have HE := Lib.hid hE
    have HL := Lib.hid hml
    clear hE hgm hml
    go_enter Try.func8, Try.ntmps8
    go_wp2_with (first
      | (go_at_call 16; refine (find_some h0 hm hwf (by assumption)).mono ?_; rintro e w' ⟨rfl, rfl⟩)
      | (at_delete; refine MapI.strike _ rfl _ _ 44 47 rfl Try.underlying3 uMap mb l rfl hm n rfl hwf ?_; intro w1 hm1 ht1))
    go_ret
    have hgr := ht1.grown
    refine ⟨ret_eq HE.out.symm, ?_, (Below.refl B w).grown hgr hB (fun k e => by cases e; exact ht.hMb)⟩
    rw [← HL.out, ← mapv_del]
    have hne : ∀ {k : Nat} {cs : Array Value} {t : Nat}, w.heap[k]? = some (.cells cs t (0, 0)) → w1.heap[k]? = w.heap[k]? := fun {k cs t} h => hgr.block k (lt_of_block h) (by simpa using ht.block_ne h)
    refine ⟨mb, _, ⟨ht.hB, ht.hMb, (hne ht.tab).trans ht.tab, hm1, fun p hp => ?_, ht.apart.filter _, fun p hp => ht.wf p (mem_del.1 hp).1⟩, rfl⟩
    have he := ht.ent p (mem_del.1 hp).1
    refine he.of_block (hne he.blk) (fun k hk => ?_)
    obtain ⟨cur, hh⟩ := own_type he.own hk
    exact hne hh
end Go.Proofs.Ytohnfjincfippaa
