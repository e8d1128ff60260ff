/- The law TableRows: rows are told by their numbers, rising, each with a first record that isn't behind its last one. Condition: the list's cells read as said. -/
import Derived.Test.YtohnfjincfippaaTabA
import Derived.Deep.DeepCutAuto
import Derived.Deep.CutBlock
import Derived.Deep.LoopGhost
import Derived.IntWalk
namespace Go.Proofs.Ytohnfjincfippaa
open Go.RowKit Go.Maps MapI
set_option linter.unusedVariables false

structure Good (m : Txs) : Prop where
  wf : ∀ p ∈ m, p.2.txn = p.1 ∧ 1 ≤ p.1 ∧ p.1 ≤ 2147483647
  last : ∀ p ∈ m, p.2.first ≤ p.2.last ∧ 0 ≤ p.2.last ∧ (p.2.first = 0 → p.2.last = 0) ∧ 0 ≤ p.2.first
  few : m.length ≤ 4

def ReadsOps (w : World) (b off n : Nat) (ops : List (Int × Int × Int)) : Prop :=
  ops.length = n ∧ ∀ i x, ops[i]? = some x → w.cell? ⟨b, off + i * 3, none⟩ = some (.int .i64 x.1) ∧ w.cell? ⟨b, off + i * 3 + 1, none⟩ = some (.int .i64 x.2.1) ∧ w.cell? ⟨b, off + i * 3 + 2, none⟩ = some (.int .i64 x.2.2) ∧ (Lit.int .i64 x.2.1).wf = true

theorem good_nil : Good [] := ⟨by simp, by simp, by simp⟩
theorem good_begin {n : Int} {m : Txs} (h : Good m) (hr : Rises m) : Good (beginM n m) := by
  by_cases h0 : beginE n m = 0
  · rw [begin_yes h0]
    unfold beginE at h0
    have hn : ¬ (n < 1 ∨ n > 2147483647) := fun hh => by rw [if_pos hh] at h0; cases h0
    rw [if_neg hn] at h0
    have hg : ¬ (get n m).isSome = true := fun hh => by rw [if_pos hh] at h0; cases h0
    rw [if_neg hg] at h0
    have h4 : ¬ 4 ≤ m.length := fun hh => by rw [if_pos hh] at h0; cases h0
    have hgn : get n m = none := by cases hx : get n m with | none => rfl | some x => simp [hx] at hg
    refine ⟨fun p hp => ?_, fun p hp => ?_, by rw [length_put_new hgn]; omega⟩
    · rcases mem_put.1 hp with rfl | ⟨hp, _⟩
      · exact ⟨rfl, by dsimp only; omega, by dsimp only; omega⟩
      · exact h.wf p hp
    · rcases mem_put.1 hp with rfl | ⟨hp, _⟩
      · simp
      · exact h.last p hp
  · rw [begin_no rfl h0]; exact h
theorem good_log {n a : Int} {m : Txs} (h : Good m) (hr : Rises m) : Good (logM n a m) := by
  by_cases h0 : logE n a m = 0
  · rw [log_yes h0]
    unfold logE at h0
    cases hg : get n m with
    | none => rw [hg] at h0; cases h0
    | some x =>
      rw [hg] at h0
      have ha : ¬ a ≤ x.last := fun hh => by dsimp only at h0; rw [if_pos hh] at h0; cases h0
      refine ⟨fun p hp => ?_, fun p hp => ?_, by simp [upd]; exact h.few⟩
      · rcases mem_upd hp with ⟨hp, _⟩ | ⟨y, hy, rfl⟩
        · exact h.wf p hp
        · have := h.wf _ hy; exact this
      · rcases mem_upd hp with ⟨hp, _⟩ | ⟨y, hy, rfl⟩
        · exact h.last p hp
        · have hxy := get_of_mem hr hy
          rw [hg] at hxy
          injection hxy with hxy
          subst hxy
          have hx := h.last _ hy
          dsimp only at hx
          simp only [logT]
          refine ⟨?_, by omega, ?_, ?_⟩
          · split <;> omega
          · split <;> intro h1 <;> omega
          · split <;> omega
  · rw [log_no rfl h0]; exact h
theorem good_del {n : Int} {m : Txs} (h : Good m) : Good (del n m) :=
  ⟨fun p hp => h.wf p (mem_del.1 hp).1, fun p hp => h.last p (mem_del.1 hp).1, Nat.le_trans length_del_le h.few⟩
theorem row_lit {w : World} {B tb : Nat} {m : Txs} {n : Int} {x : Tx} (h : TabAt w B tb m) (hwf : (Lit.int .i64 n).wf = true) (hx : get n m = some x) :
    Calls Try.prog 10 #[ptr tb, .int .i64 n] w fun r w' => r = .returned (.tuple #[.agg #[.int .i64 x.txn, .int .i64 x.first, .int .i64 x.last], .int .i64 x.left, .int .i64 0]) ∧ Below w.heap.size w w' := row_some h hwf hx
theorem rows_empty {w : World} {B tb : Nat} {m : Txs} (h : TabAt w B tb m) (hlen : m.length ≤ 1000) (he : rowsOf m = []) :
    Calls Try.prog 9 #[ptr tb] w fun r w' => ∃ A C, r = .returned (.slice A 0 C) ∧ Below w.heap.size w w' :=
  (rows_calls h hlen).mono fun r w' ⟨v, hr, ho, hb⟩ => by
    rw [he] at ho
    rcases ho.2 with ⟨h1, _⟩ | ⟨g, cap, cur, h1, _⟩
    · exact ⟨none, 0, by rw [hr, h1], hb⟩
    · exact ⟨_, cap, by rw [hr, h1]; rfl, hb⟩
theorem rowCells_get {l : List Tx} : ∀ {j : Nat} {x : Tx}, l[j]? = some x → (rowCells l)[j * 3]? = some (.int .i64 x.txn) ∧ (rowCells l)[j * 3 + 1]? = some (.int .i64 x.first) ∧ (rowCells l)[j * 3 + 2]? = some (.int .i64 x.last) := by
  induction l with
  | nil => intro j x h; simp at h
  | cons y r ih =>
    intro j x h
    cases j with
    | zero => simp at h; subst h; exact ⟨rfl, rfl, rfl⟩
    | succ j =>
      have h1 := ih (j := j) (x := x) (by simpa using h)
      have e : ∀ k, (rowCells (y :: r))[(j + 1) * 3 + k]? = (rowCells r)[j * 3 + k]? := fun k => by
        rw [show (j + 1) * 3 + k = (j * 3 + k) + 3 from by omega]; rfl
      exact ⟨(e 0).trans h1.1, (e 1).trans h1.2.1, (e 2).trans h1.2.2⟩
theorem rows_full {w : World} {B tb : Nat} {m : Txs} (h : TabAt w B tb m) (hlen : m.length ≤ 1000) (he : 0 < (rowsOf m).length) :
    Calls Try.prog 9 #[ptr tb] w fun r w' => ∃ g cap, r = .returned (.slice (some ⟨g, 0, none⟩) (rowsOf m).length cap) ∧ w.heap.size ≤ g ∧ g < w'.heap.size ∧ Below w.heap.size w w' ∧
      ∀ j x, (rowsOf m)[j]? = some x → w'.cell? ⟨g, j * 3, none⟩ = some (.int .i64 x.txn) ∧ w'.cell? ⟨g, j * 3 + 1, none⟩ = some (.int .i64 x.first) ∧ w'.cell? ⟨g, j * 3 + 2, none⟩ = some (.int .i64 x.last) :=
  (rows_calls h hlen).mono fun r w' ⟨v, hr, ho, hb⟩ => by
    obtain ⟨g, cap, hv, hg1, hg2⟩ := ho.form he
    subst hv
    have hc : ∀ j u, (rowCells (rowsOf m))[j]? = some u → w'.cell? ⟨g, j, none⟩ = some u := fun j u hu => by
      have := ho.cells (g := g) rfl j u hu
      rwa [show (⟨g, 0, none⟩ : Addr).add j = ⟨g, j, none⟩ from by unfold Addr.add; split <;> simp_all] at this
    exact ⟨g, cap, hr, hg1, hg2, hb, fun j x hx => ⟨hc _ _ (rowCells_get hx).1, hc _ _ (rowCells_get hx).2.1, hc _ _ (rowCells_get hx).2.2⟩⟩
theorem good_rows {m : Txs} (h : Good m) (hr : Rises m) {j : Nat} {x : Tx} (hx : (rowsOf m)[j]? = some x) : get x.txn m = some x ∧ x.first ≤ x.last ∧ 1 ≤ x.last ∧ (Lit.int .i64 x.txn).wf = true ∧
    (∀ y, 0 < j → (rowsOf m)[j - 1]? = some y → y.txn < x.txn) := by
  have hmem := List.mem_of_getElem? hx
  obtain ⟨hm1, hm2⟩ := List.mem_filter.1 hmem
  obtain ⟨p, hp, hpx⟩ := List.mem_map.1 hm1
  have hw := h.wf p hp
  have hl := h.last p hp
  have hx2 : 0 < x.last := by simpa using hm2
  subst hpx
  refine ⟨get_of_mem hr (by rw [hw.1]; exact hp), hl.1, by omega, WalkArith.wf_i64 (by rw [hw.1]; omega), fun y hj hy => ?_⟩
  have hpw : (rowsOf m).Pairwise fun a b => a.txn < b.txn := by
    refine List.Pairwise.filter _ (List.pairwise_map.2 ?_)
    exact hr.imp_of_mem fun ha hb hab => by rw [(h.wf _ ha).1, (h.wf _ hb).1]; exact hab
  obtain ⟨h1, e1⟩ := List.getElem?_eq_some_iff.1 hy
  obtain ⟨h2, e2⟩ := List.getElem?_eq_some_iff.1 hx
  have := List.pairwise_iff_getElem.1 hpw (j - 1) j h1 h2 (by omega)
  rw [e1, e2] at this
  exact this

set_option maxRecDepth 100000 in
set_option maxHeartbeats 1600000 in
theorem law_some {w : World} {b off n c : Nat} {ops : List (Int × Int × Int)} (h : ReadsOps w b off n ops) (hn : n ≤ 300) :
    Calls Try.prog 3 #[.slice (some ⟨b, off, none⟩) n c] w fun r w' => r = .returned (.bool true) ∧ Below w.heap.size w w' := by
  have hd3 : decide ((300 : Int) < (n : Int)) = false := by simp; omega
  go_enter Try.func3, Try.ntmps3
  go_wp2_with fail
  refine (awake_calls w).mono ?_
  rintro e w1 ⟨rfl, b1⟩
  go_wp2_with fail
  refine (new_calls w1).mono ?_
  rintro e w2 ⟨rfl, t2, b2⟩
  have z1 := b1.size
  have z2 := b2.size
  go_wp2_with fail
  go_loopg [23] n (fun k iv wr => ∃ (i : Nat) (m : Txs), i + k = n ∧ iv = .int .i64 i ∧ TabAt wr w1.heap.size (w1.heap.size + 1) m ∧ Good m ∧ Below w1.heap.size w1 wr)
  case atStart => exact ⟨0, [], by omega, rfl, t2, good_nil, b2⟩
  case round =>
    obtain ⟨wo, rfl⟩ : ∃ wo : World, wo = wr := ⟨_, rfl⟩
    obtain ⟨ko, rfl⟩ : ∃ ko : Nat, ko = gk := ⟨_, rfl⟩
    obtain ⟨i, m, hin, rfl, tm, gm, bw⟩ := hrel
    by_cases hlt : i < n
    · obtain ⟨x, hx⟩ : ∃ x, ops[i]? = some x := ⟨_, List.getElem?_eq_getElem (by have := h.1; omega)⟩
      obtain ⟨k0, k1, k2, kwf⟩ := h.2 i x hx
      have lift : ∀ a v, w.cell? a = some v → wo.cell? a = some v := fun a v hc => by
        have hl := World.block_lt_of_cell? w _ hc
        rw [bw.cell (by omega), b1.cell hl]; exact hc
      have c0 := lift _ _ k0
      have c1 := lift _ _ k1
      have c2 := lift _ _ k2
      clear lift k0 k1 k2
      have tA : TabAt (wo.alloc (.cells #[.int .i64 x.1, .int .i64 x.2.1, .int .i64 x.2.2] 27)) w1.heap.size (w1.heap.size + 1) m := tm.below ((Below.refl _ _).alloc (Nat.le_refl _) _)
      have zr := bw.size
      have bA : Below w1.heap.size w1 (wo.alloc (.cells #[.int .i64 x.1, .int .i64 x.2.1, .int .i64 x.2.2] 27)) := bw.alloc zr _
      go_upto_block 2 with fail
      go_cut [] (fun wx => ∃ m', TabAt wx w1.heap.size (w1.heap.size + 1) m' ∧ Good m' ∧ Below w1.heap.size w1 wx)
      case first =>
        by_cases e1 : (x.1 == 1) = true
        · go_wp2_with (go_at_call 6; refine (begin_calls tA (by simp; omega) kwf).mono ?_; rintro e wy ⟨rfl, ty, b3⟩)
          go_meet
          exact ⟨_, ty, good_begin gm tm.rises, bA.trans b3⟩
        · have e1' : (x.1 == 1) = false := by simpa using e1
          clear e1
          by_cases e2 : (x.1 == 2) = true
          · go_wp2_with (go_at_call 7; refine (log_calls tA (by simp; omega) kwf).mono ?_; rintro e wy ⟨rfl, ty, b3⟩)
            go_meet
            exact ⟨_, ty, good_log gm tm.rises, bA.trans b3⟩
          · have e2' : (x.1 == 2) = false := by simpa using e2
            clear e2
            by_cases e3 : (x.1 == 6) = true
            · go_wp2_with (go_at_call 8; refine (end_calls tA (by simp; omega) kwf).mono ?_; rintro e wy ⟨rfl, ty, b3⟩)
              go_meet
              exact ⟨_, ty, good_del gm, bA.trans b3⟩
            · have e3' : (x.1 == 6) = false := by simpa using e3
              clear e3
              go_wp2_with fail
              go_meet
              exact ⟨_, tA, gm, bA⟩
      case rest =>
        obtain ⟨m', t', g', b'⟩ := hcut
        clear c0 c1 c2 tA bA tm gm bw
        have hfew := g'.few
        by_cases he : rowsOf m' = []
        · go_wp2_with (go_at_call 9; refine (rows_empty t' (by omega) he).mono ?_; rintro e wy ⟨A, C, rfl, b3⟩)
          refine wp_loop_rounds 1 ?_
          rw [rounds_succ]
          go_wp2_with fail
          go_roundg (ko - 1)
          case measure => omega
          case rel => exact ⟨i + 1, m', by omega, by go_num, t'.below b3, g', b'.trans (b3.mono b'.size)⟩
        · have hpos : 0 < (rowsOf m').length := List.length_pos_iff.2 he
          have hr4 : (rowsOf m').length ≤ 4 := Nat.le_trans (rowsOf_le m') hfew
          clear he
          go_wp2_with (go_at_call 9; refine (rows_full t' (by omega) hpos).mono ?_; rintro e wy ⟨g, cap, rfl, hg1, hg2, b3, hcells⟩)
          have ty := t'.below b3
          have by_ := b'.trans (b3.mono b'.size)
          have HC := Lib.hid hcells
          clear hcells t' b' b3
          go_loopg [53] (rowsOf m').length (fun k jv wx => ∃ j : Nat, j + k = (rowsOf m').length ∧ jv = .int .i64 j ∧ Below wy.heap.size wy wx)
          case atStart => exact ⟨0, by omega, rfl, Below.refl _ _⟩
          case round =>
            obtain ⟨j, hjk, rfl, bx⟩ := hrel
            have tx := ty.below bx
            by_cases hjl : j < (rowsOf m').length
            · obtain ⟨y, hy⟩ : ∃ y, (rowsOf m')[j]? = some y := ⟨_, List.getElem?_eq_getElem hjl⟩
              obtain ⟨d0, d1, d2⟩ := HC.out j y hy
              rw [← bx.cell (p := ⟨g, _, none⟩) hg2] at d0 d1 d2
              obtain ⟨hgy, hfl, hl1, hwy, hprev⟩ := good_rows g' ty.rises hy
              have HG := Lib.hid hgy
              clear hgy
              have tx1 := tx.below ((Below.refl _ wr).alloc (Nat.le_refl _) (.cells #[.int .i64 y.txn, .int .i64 y.first, .int .i64 y.last] 34))
              go_wp2_with (go_at_call 10; refine (row_lit tx1 hwy HG.out).mono ?_; rintro e wz ⟨rfl, b4⟩)
              have hz := b4.size
              have hbx := bx.size
              have hz2 : wr.heap.size + 1 ≤ wz.heap.size := by simpa using hz
              have old : ∀ k v, (wr.alloc (.cells #[.int .i64 y.txn, .int .i64 y.first, .int .i64 y.last] 34)).cell? ⟨wr.heap.size, k, none⟩ = some v → (wz.alloc (.cells #[.int .i64 y.txn, .int .i64 y.first, .int .i64 y.last] 34)).cell? ⟨wr.heap.size, k, none⟩ = some v := fun k v hk => by rw [World.cell?_alloc_lt _ _ _ (by show wr.heap.size < _; omega), b4.cell (p := ⟨wr.heap.size, k, none⟩) (by simp)]; exact hk
              have e0 := old 0 _ (World.cell?_alloc_new _ _ _ 0)
              have e1 := old 1 _ (World.cell?_alloc_new _ _ _ 1)
              have e2 := old 2 _ (World.cell?_alloc_new _ _ _ 2)
              have hgz : g < wz.heap.size := by omega
              have bz : Below wy.heap.size wy (wz.alloc (.cells #[.int .i64 y.txn, .int .i64 y.first, .int .i64 y.last] 34)) := ((bx.alloc hbx _).trans (b4.mono (by simp; omega))).alloc (by omega) _
              clear old d0 d1 d2 HG tx1 tx b4 hz
              by_cases hj0 : 0 < j
              · obtain ⟨q, hq⟩ : ∃ q, (rowsOf m')[j - 1]? = some q := ⟨_, List.getElem?_eq_getElem (by omega)⟩
                have hqy := hprev q hj0 hq
                have p0 := (HC.out (j - 1) q hq).1
                rw [← bz.cell (p := ⟨g, _, none⟩) hg2] at p0
                have hj0' : (0 : Int) < (j : Int) := by omega
                have i1 : IntKind.i64.wrap ((j : Int) - 1) = (j : Int) - 1 := IntWalk.i64_in _ (by omega)
                have i2 : 0 ≤ (j : Int) - 1 := by omega
                have i3 : (j : Int) - 1 < ((rowsOf m').length : Int) := by omega
                have i4 : ((j : Int) - 1).toNat = j - 1 := by omega
                have i5 : 1 ≤ (j : Int) := by omega
                have i6 : 1 ≤ j := hj0
                have i7 : (j : Int) < ((rowsOf m').length : Int) + 1 := by omega
                have i8 : j < (rowsOf m').length + 1 := by omega
                clear hprev hq
                go_quiet (fail)
                clear i1 i2 i3 i4 i5 i6 i7 i8
                go_wp2_with fail
                go_roundg (gk - 1)
                case measure => omega
                case rel => exact ⟨j + 1, by omega, by go_num, pw_below_drewN' bz _⟩
              · have hj0' : decide ((0 : Int) < (j : Int)) = false := by simp; omega
                have hj0n : decide (0 < j) = false := by simp; omega
                have hflb : decide (y.last < y.first) = false := by simp; omega
                have hl1b : decide (y.last < 1) = false := by simp; omega
                clear hprev hj0
                go_quiet (fail)
                clear hj0' hj0n hflb hl1b
                go_wp2_with fail
                go_roundg (gk - 1)
                case measure => omega
                case rel => exact ⟨j + 1, by omega, by go_num, pw_below_drewN' bz _⟩
            · go_wp2_with fail
              go_roundg (ko - 1)
              case measure => omega
              case rel => exact ⟨i + 1, m', by omega, by go_num, tx, g', by_.trans (bx.mono by_.size)⟩
    · go_wp2_with fail
      go_ret
      exact ⟨rfl, b1.trans (bw.mono b1.size)⟩
end Go.Proofs.Ytohnfjincfippaa
