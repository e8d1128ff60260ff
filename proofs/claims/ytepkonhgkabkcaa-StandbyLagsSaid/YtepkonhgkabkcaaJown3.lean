/- Package judge: own, at one kind of record. No condition. -/
import Derived.Test.YtepkonhgkabkcaaJaft
namespace Go.Proofs.Ytepkonhgkabkcaa
open Go.RowKit Go.Maps MapI
set_option linter.unusedVariables false
set_option linter.unusedSimpArgs false
set_option maxHeartbeats 2000000 in
set_option maxRecDepth 100000 in
theorem own_three {w : World} {B jb mb gb rb ro : Nat} {l : List (Int × JEnt)} {fv : Value} {s : JSt} {r : Rc} {a : Int} (h : Jud w B jb mb gb l fv s) (hB : B ≤ w.heap.size) (hr : RcAt w rb ro r) (hrb : rb < B) (hok : RcOk r) (hlen : s.opn.length ≤ 100000) (hst : ∀ p ∈ s.opn, p.2.stand.length ≤ 100000) (hk : r.kind = 3) (ho : s.out = none) :
    Calls Try.prog 102 #[.pointer (some ⟨jb, 0, none⟩), .int .i64 a, .pointer (some ⟨rb, ro, none⟩)] w (OwnPost w B jb mb gb fv (ownJ s a r)) := by
  obtain ⟨cs, hjb, j0, j1, jp, j18, j19⟩ := h.blk.cs
  have q1 : w.cell? ⟨jb, 1, none⟩ = some (.map (some mb)) := (cell_of_block hjb _).trans j1
  have hjl := lt_of_block hjb
  have hJB := h.hB
  have hm := h.map
  obtain ⟨r0, r1, r2, -, r4, -⟩ := hr.cells
  rw [hk] at r0
  have hrl := World.block_lt_of_cell? w _ r2
  have hwf := hok.wf
  have hlk := hm.run_look_ok (P := Try.prog) Try.underlying3 uOpen (zeroJ w) hwf
  obtain ⟨v7, hv7⟩ : ∃ v, v = ((get r.txn l).map encJ).getD (.pointer none) := ⟨_, rfl⟩
  obtain ⟨b8, hb8⟩ : ∃ b, b = (get r.txn l).isSome := ⟨_, rfl⟩
  rw [← hv7, ← hb8] at hlk
  have hlk' : (Instr.lookup 110 (.map (some mb)) (.int .i64 r.txn) true).run Try.prog w.drew = .ok (.tuple #[v7, .bool b8]) w.drew := by rw [hv7, hb8]; exact (hm.of_block (w' := w.drew) rfl).run_look_ok (P := Try.prog) Try.underlying3 uOpen (zeroJ _) hwf
  have HV7 := Lib.hid hv7
  have HB8 := Lib.hid hb8
  clear hv7 hb8
  have hE := fun (wx : World) (t : Value) (hx : Opened w wx B jb mb gb fv s a r t) => hx
  have hll : l.length ≤ 100000 := by rw [← h.opn, length_mapv] at hlen; exact hlen
  go_enter Try.func102, Try.ntmps102
  go_wp2_with fail
  go_region_held3 (fun w' => w'.cell? ⟨jb, 1, none⟩ = some (.map (some mb)) ∧ w'.cell? ⟨rb, ro + 1, none⟩ = some (.int .i64 r.txn) ∧ (Instr.lookup 110 (.map (some mb)) (.int .i64 r.txn) true).run Try.prog w' = .ok (.tuple #[v7, .bool b8]) w') (exact ⟨q1, r1, hlk'⟩) (fail)
  simp only [Exit.then]
  refine (by assumption : ∀ (a : Act) (w_1 : World), _ → _) _ _ ?_
  go_upto_if 23 with fail
  go_cut [7] from 22 to 40 (fun t wx => Opened w wx B jb mb gb fv s a r t)
  case first =>
    cases hg : get r.txn l with
    | some e =>
      have HV := Lib.hid (show v7 = encJ e by rw [HV7.out, hg]; rfl)
      have HB := Lib.hid (show b8 = true by rw [HB8.out, hg]; rfl)
      go_wp2_with fail
      · exfalso; have h9 := HB.out; simp_all
      · go_meet
        refine hE _ _ ⟨put r.txn e l, e, HV.out, (h.openT_eq hg).symm, get_put_same, ?_, ?_⟩
        · rw [h.openT_eq hg]
          have h2 := h.turned (w' := w.drew) hg rfl (fun _ _ _ _ => rfl) ((h.ents.ent _ (MapI.get_mem hg)).of_block (w' := w.drew) rfl (fun _ _ => rfl)) (.inr (.inl rfl))
          exact h2
        · exact .same rfl rfl rfl rfl
    | none =>
      have HB := Lib.hid (show b8 = false by rw [HB8.out, hg]; rfl)
      have hm1 : MapIs Try.prog 3 encJ (w.alloc (.cells #[.int .i64 r.txn, .int .i64 a, .int .i64 0, .slice none 0 0] tJx)).drew.drew mb l := hm.kept (w' := (w.alloc (.cells #[.int .i64 r.txn, .int .i64 a, .int .i64 0, .slice none 0 0] tJx)).drew.drew) (row := none) ⟨rfl, rfl, rfl, by show w.heap.size ≤ (w.alloc _).heap.size; simp, fun k hk' _ => Below.heap_alloc w _ k hk'⟩ (by simp)
      obtain ⟨w3, hru, hm3, ht3⟩ := hm1.run_store (P := Try.prog) Try.underlying3 uOpen (by unfold maxLen; omega) hwf (⟨w.heap.size, .slice none 0 0, ⟨r.txn, a, 0, []⟩⟩ : JEnt)
      simp only [encJ] at hru
      go_wp2_with fail
      · go_region_law (refine MapI.step_update_run rfl (.tmp 35) (.tmp 39) (.tmp 40) 110 rfl rfl rfl rfl hru ?_)
        all_goals go_wp2
        all_goals
          go_meet
          exact hE _ _ (opened_new h hB hg hm3 ht3)
      · exfalso; have h9 := HB.out; simp_all
  case rest =>
    obtain ⟨l1, e1, rfl, ht1, hg1, hJ1, hb1⟩ := hcut
    have HT1 := Lib.hid ht1
    clear ht1
    have he1 := hJ1.ents.ent _ (MapI.get_mem hg1)
    dsimp only at he1
    have hr1 := hr.of_block (hb1.block _ hrb)
    have hr1s := RcAt.cells hr1
    clear hlk hlk' HV7 HB8 q1 j0 j1 jp j18 j19 hjb r0 r1 r2 r4 hrl
    obtain ⟨r0, r1, r2, r3, r4, r5, r6, r7, r8, r9, r10⟩ := hr1s
    rw [hk] at r0
    have c2 : wc.cell? ⟨e1.blk, 2, none⟩ = some (.int .i64 e1.tx.last) := by rw [cell_of_block he1.blk]; rfl
    have f2 : wc.frozen? ⟨e1.blk, 2, none⟩ = false := frozen_of_block he1.blk _
    have hne : rb ≠ e1.blk := by have := he1.ge; omega
    simp only [encJ]
    go_wp2_with fail
    go_quiet (fail)
    rename_i nq
    obtain ⟨hJ2, hb2⟩ := hJ1.stamp (a := a) hg1 nq
    have hr2 := hr1.of_block (hb2.block _ hrb)
    obtain ⟨cs2, hjb2, i0, i1, ip, i18, i19⟩ := hJ2.blk.cs
    have hlt2 : rb < ((wc.drewN nq).setCell ⟨e1.blk, 2, none⟩ (.int .i64 a)).heap.size := by have := hb2.size; have := hb1.size; omega
    have hB2 : B ≤ ((wc.drewN nq).setCell ⟨e1.blk, 2, none⟩ (.int .i64 a)).heap.size := by have := hb2.size; have := hb1.size; omega
    have hg2 : get r.txn (put r.txn (⟨e1.blk, e1.sv, { e1.tx with last := a }⟩ : JEnt) l1) = some ⟨e1.blk, e1.sv, { e1.tx with last := a }⟩ := get_put_same
    have he2 := hJ2.ents.ent _ (MapI.get_mem hg2)
    dsimp only at he2
    obtain ⟨A1, cap1, hv1, hc1, hc2⟩ := he2.own.form
    dsimp only at hv1 hc1
    have c3 : ((wc.drewN nq).setCell ⟨e1.blk, 2, none⟩ (.int .i64 a)).cell? ⟨e1.blk, 3, none⟩ = some (.slice A1 e1.tx.stand.length cap1) := by rw [cell_of_block he2.blk]; show some e1.sv = _; rw [hv1]
    have q2 : ((wc.drewN nq).setCell ⟨e1.blk, 2, none⟩ (.int .i64 a)).cell? ⟨jb, 1, none⟩ = some (.map (some mb)) := (cell_of_block hjb2 _).trans i1
    have hne9 : jb ≠ e1.blk := type_ne he2.blk hjb2 (by decide)
    have q3 : wc.cell? ⟨jb, 1, none⟩ = some (.map (some mb)) := by rw [← q2]; exact (World.cell?_of_block (a := ⟨jb, 1, none⟩) (Below.heap_setCell (wc.drewN nq) _ _ _ hne9)).symm
    have c4 : wc.cell? ⟨e1.blk, 3, none⟩ = some (.slice A1 e1.tx.stand.length cap1) := by rw [cell_of_block he1.blk]; show some e1.sv = _; rw [hv1]
    have q4 : ((wc.drewN nq).setCell ⟨e1.blk, 2, none⟩ (.int .i64 a)).cell? ⟨jb, 19, none⟩ = some (.func (.func 101) #[] #[]) := by
      have h9 := hJ2.out
      have h8 : OutIs ((wc.drewN nq).setCell ⟨e1.blk, 2, none⟩ (.int .i64 a)) B fv s.out := h9
      rw [ho] at h8
      rw [cell_of_block hjb2, i19, h8]
    have q5 : wc.cell? ⟨jb, 19, none⟩ = some (.func (.func 101) #[] #[]) := by rw [← q4]; exact (World.cell?_of_block (a := ⟨jb, 19, none⟩) (Below.heap_setCell (wc.drewN nq) _ _ _ hne9)).symm
    obtain ⟨w3, hru, hm3, ht3⟩ := (hJ2.map.of_block (w' := ((wc.drewN nq).setCell ⟨e1.blk, 2, none⟩ (.int .i64 a)).drew) rfl).run_strike (P := Try.prog) Try.underlying3 uOpen hwf 0
    have HD := Lib.hid (hJ2.dropped (w' := w3) (n := r.txn) (fun k hk1 hne => ht3.grown.block k hk1 (by simpa using hne)) hm3)
    have HG := Lib.hid (foot_turned hJ2.map hJ2.hmb ht3)
    have hfar : rb ≠ e1.blk := hne
    have HL := Lib.hid hb2
    clear hJ2 hr2 hb2 hjb2 i0 i1 ip i18 i19 hJ1 hg1 hg2 hm3 ht3 hv1 he2 he1
    go_wp2_with (first | (go_at_call 101; refine (after_none _ _).mono ?_; rintro x w9 ⟨rfl, rfl⟩))
    go_region_law (refine MapI.step_delete_run rfl (.tmp 130) (.tmp 134) 110 3 rfl rfl rfl hru ?_)
    all_goals go_wp2_with fail
    all_goals go_ret
    all_goals refine own_close HD.out ?_ ?_ ((hb1.trans HL.out).trans HG.out)
    all_goals unfold ownJ
    all_goals rw [if_neg (by omega), if_neg (by omega), if_neg (by omega)]
    all_goals first
      | (simp only [del_put, ho, Option.map_none]; done)
      | (rw [← HT1.out]; done)
      | (rw [← HT1.out]; rfl)
end Go.Proofs.Ytepkonhgkabkcaa
