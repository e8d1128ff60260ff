/- The table's counts: one more change, what transactions may need, and the rows in their order. Condition: the table reads as said. -/
import Derived.Test.YtohnfjincfippaaTabV
namespace Go.Proofs.Ytohnfjincfippaa
open Go.RowKit Go.Maps MapI
set_option linter.unusedVariables false

def left1M (n : Int) (m : Txs) : Txs := upd n (fun x => { x with left := x.left + 1 }) m
set_option maxHeartbeats 1000000 in
theorem left_one {w : World} {B tb : Nat} {m : Txs} {n : Int} {x : Tx} (h : TabAt w B tb m) (hB : B ≤ w.heap.size) (hwf : (Lit.int .i64 n).wf = true) (hx : get n m = some x) (h1 : 0 ≤ x.left) (h2 : x.left ≤ 1000) :
    Calls Try.prog 11 #[ptr tb, .int .i64 n, .int .i64 1] w fun r w' => r = .returned (.int .i64 0) ∧ TabAt w' B tb (left1M n m) ∧ Below B w w' := by
  obtain ⟨mb, l, ht, hml⟩ := h
  have h0 : w.cell? ⟨tb, 0, none⟩ = some (.map (some mb)) := by rw [cell_of_block ht.tab]; rfl
  have hm := ht.map
  have hgm : get n m = (get n l).map Ent.tx := by rw [← hml, get_mapv]
  rw [hgm] at hx
  obtain ⟨e, hg, hex⟩ := Option.map_eq_some_iff.1 hx
  have he := ht.get_mem hg
  have hge := he.ge
  have hlt := he.lt
  subst hex
  have c3 : w.cell? ⟨e.blk, 3, none⟩ = some (.int .i64 e.tx.left) := by rw [cell_of_block he.blk]; rfl
  have f3 : w.frozen? ⟨e.blk, 3, none⟩ = false := frozen_of_block he.blk 3
  have HL := Lib.hid hml
  clear hgm hx hml
  go_enter Try.func11, Try.ntmps11
  go_wp2_with (go_at_call 16; refine (find_some h0 hm hwf hg).mono ?_; rintro e w' ⟨rfl, rfl⟩)
  go_ret
  refine ⟨rfl, ?_, (Below.refl B w).setCell hge _⟩
  rw [← HL.out]
  refine ht.turnedAt (g := fun x => { x with left := x.left + 1 }) (e' := ⟨e.blk, e.mv, { e.tx with left := e.tx.left + 1 }⟩) hg rfl rfl rfl (fun k _ hk _ => Below.heap_setCell _ _ _ _ hk) ⟨he.ge, ?_, ownsRow_block he.own (fun k hk => ?_)⟩ (.inr (.inl rfl))
  · rw [setCell_block _ _ _ _ he.blk]; simp [entCells]
  · have : k ≠ e.blk := fun e1 => blk_ne_own he.blk he.own (by decide) (by rw [← e1]; exact hk.symm)
    exact Below.heap_setCell _ _ _ _ this

def needL : Txs → Int
  | [] => 0
  | p :: r => (1 + p.2.left) + needL r
theorem needL_del {l : List (Int × Ent)} {x : Int} {u : Ent} : ∀ {todo : List (Int × Ent)}, Rises todo → (x, u) ∈ todo → needL (mapv Ent.tx (del x todo)) + (1 + u.tx.left) = needL (mapv Ent.tx todo)
  | [], _, h => by simp at h
  | y :: r, hr, h => by
    obtain ⟨h1, h2⟩ := List.pairwise_cons.1 hr
    rcases List.mem_cons.1 h with e | h
    · subst e
      have hd : del x ((x, u) :: r) = r := by
        unfold del; rw [List.filter_cons]; simp
        intro a b hab e; have := h1 _ hab; simp at this; omega
      rw [hd]; show _ = (1 + u.tx.left) + needL (mapv Ent.tx r); omega
    · have hne : y.1 ≠ x := by have := h1 _ h; simp at this; omega
      have hd : del x (y :: r) = y :: del x r := by unfold del; rw [List.filter_cons]; simp [hne]
      have ih := needL_del (l := l) h2 h
      rw [hd]; show (1 + y.2.tx.left) + needL (mapv Ent.tx (del x r)) + _ = (1 + y.2.tx.left) + needL (mapv Ent.tx r); omega
theorem needL_bound {N : Int} : ∀ {m : Txs}, (∀ p ∈ m, 0 ≤ p.2.left ∧ p.2.left ≤ N) → 0 ≤ needL m ∧ needL m ≤ (1 + N) * m.length
  | [], _ => by simp [needL]
  | p :: r, h => by
    have h1 := h p (by simp)
    have ih := needL_bound (N := N) (m := r) (fun q hq => h q (List.mem_cons_of_mem _ hq))
    simp only [needL, List.length_cons, Int.natCast_add, Int.mul_add]
    omega

set_option maxHeartbeats 1000000 in
theorem need_calls {w : World} {B tb : Nat} {m : Txs} (h : TabAt w B tb m) (hB : B ≤ w.heap.size) (hl : ∀ p ∈ m, 0 ≤ p.2.left ∧ p.2.left ≤ 1048576) (hlen : m.length ≤ 1000) :
    Calls Try.prog 13 #[ptr tb] w fun r w' => r = .returned (.int .i64 (needL m)) ∧ Below w.heap.size w w' := by
  obtain ⟨mb, l, ht, hml⟩ := h
  have h0 : w.cell? ⟨tb, 0, none⟩ = some (.map (some mb)) := by rw [cell_of_block ht.tab]; rfl
  have hm := ht.map
  go_enter Try.func13, Try.ntmps13
  go_wp2_with (at_range; refine MapI.range_start _ rfl _ 44 47 rfl Try.underlying3 uMap mb l rfl hm ?_; intro w1 cnt1 hr1 hg1 hs1)
  go_frame
  have hbM : Below w.heap.size w w1 := (Below.refl _ w).grown hg1 (Nat.le_refl _) (fun k e => by cases e)
  have hNB : ∀ todo : List (Int × Ent), (∀ p ∈ todo, p ∈ l) → todo.length ≤ l.length → 0 ≤ needL (mapv Ent.tx todo) ∧ needL (mapv Ent.tx todo) ≤ 1048577 * 1000 := fun todo hs hle => by
    have h1 := needL_bound (N := 1048576) (m := mapv Ent.tx todo) (fun p hp => by
      obtain ⟨q, hq, rfl⟩ := List.mem_map.1 hp
      refine hl _ ?_
      rw [← hml]
      exact List.mem_map.2 ⟨q, hs q hq, rfl⟩)
    rw [length_mapv] at h1
    rw [← hml, length_mapv] at hlen
    omega
  have hNB' := Lib.hid hNB
  have HL := Lib.hid hml
  clear hNB hml hl hlen
  go_loopw [2] (fun n wr => ∃ todo cnt, Ranging Try.prog 3 encE wr mb w.heap.size l todo cnt ∧ n = .int .i64 (needL m - needL (mapv Ent.tx todo)) ∧ Below w.heap.size w wr ∧ Rises todo ∧ (∀ p ∈ todo, p ∈ l) ∧ todo.length ≤ l.length)
    (fun _ wr => wr.rangeLeft mb w.heap.size)
  case atStart => exact ⟨l, cnt1, hr1, by rw [HL.out]; simp, hbM, ht.map.rises, fun _ h => h, Nat.le_refl _⟩
  case round =>
    obtain ⟨todo, cnt, hrg, rfl, hb, hrt, hsub, hle⟩ := hrel
    have hb1 := (hNB'.out todo hsub hle).1
    have hb2 := (hNB'.out todo hsub hle).2
    have hb3 := (hNB'.out l (fun _ h => h) (Nat.le_refl _)).1
    have hb4 := (hNB'.out l (fun _ h => h) (Nat.le_refl _)).2
    rw [HL.out] at hb3 hb4
    go_wp2_with (at_next; refine MapI.range_next _ rfl _ rfl Try.underlying3 mb w.heap.size l todo cnt rfl hrg ?_ ?_)
    · intro h1
      have H1 := Lib.hid h1
      clear h1
      go_wp2
      go_ret
      exact ⟨ret_eq (by rw [H1.out]; simp [mapv, needL]), hb⟩
    · intro x u w2 cnt2 hmem hgx hwx hrg2 hlt2 hg2 hs2 hen
      have hsum := needL_del (l := l) hrt hmem
      have hue := ht.ent _ (hsub _ hmem)
      have hul := hue.lt
      have hub := (hb.block _ hul).trans hue.blk
      have hne : u.blk ≠ w.heap.size := Nat.ne_of_lt hul
      have hub2 := (hg2.block _ (lt_of_block hub) (by simpa using hne)).trans hub
      have c3 : w2.cell? ⟨u.blk, 3, none⟩ = some (.int .i64 u.tx.left) := by rw [cell_of_block hub2]; rfl
      have hd := hNB'.out (del x todo) (fun p hp => hsub p (mem_del.1 hp).1) (Nat.le_trans length_del_le hle)
      have hd1 := hd.1
      have hd2 := hd.2
      have HS := Lib.hid hsum
      have hs3 : needL (mapv Ent.tx (del x todo)) + (1 + u.tx.left) ≤ needL (mapv Ent.tx todo) := by omega
      have hs4 : needL (mapv Ent.tx todo) ≤ needL (mapv Ent.tx (del x todo)) + (1 + u.tx.left) := by omega
      clear hsum hd
      simp only [encE] at hen ⊢
      go_wp2
      go_roundw
      case rel => exact ⟨del x todo, cnt2, hrg2, by congr 1; omega, hb.grown hg2 hb.size (fun k e => by cases e; exact Nat.le_refl _), hrt.del, fun p hp => hsub p (mem_del.1 hp).1, Nat.le_trans length_del_le hle⟩
      case measure => rw [hrg2.left_eq, hrg.left_eq]; exact hlt2
end Go.Proofs.Ytohnfjincfippaa
