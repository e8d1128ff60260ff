/- Package judge: own, at one kind of record. No condition. -/
import Derived.Test.YtepkonhgkabkcaaJown
namespace Go.Proofs.Ytepkonhgkabkcaa
open Go.RowKit Go.Maps MapI
set_option linter.unusedVariables false
set_option linter.unusedSimpArgs false
set_option maxHeartbeats 2000000 in
set_option maxRecDepth 100000 in
theorem own_one {w : World} {B jb mb gb rb ro : Nat} {l : List (Int × JEnt)} {fv : Value} {s : JSt} {r : Rc} {a : Int} (h : Jud w B jb mb gb l fv s) (hB : B ≤ w.heap.size) (hr : RcAt w rb ro r) (hrb : rb < B) (hok : RcOk r) (hlen : s.opn.length ≤ 100000) (hst : ∀ p ∈ s.opn, p.2.stand.length ≤ 100000) (hk : r.kind = 1) :
    Calls Try.prog 102 #[.pointer (some ⟨jb, 0, none⟩), .int .i64 a, .pointer (some ⟨rb, ro, none⟩)] w (OwnPost w B jb mb gb fv (ownJ s a r)) := by
  obtain ⟨cs, hjb, j0, j1, jp, j18, j19⟩ := h.blk.cs
  have q1 : w.cell? ⟨jb, 1, none⟩ = some (.map (some mb)) := (cell_of_block hjb _).trans j1
  have hjl := lt_of_block hjb
  have hJB := h.hB
  have hm := h.map
  obtain ⟨r0, r1, r2, -, r4, -⟩ := hr.cells
  rw [hk] at r0
  have hrl := World.block_lt_of_cell? w _ r2
  have hwf := hok.wf
  have hlk := hm.run_look_ok (P := Try.prog) Try.underlying3 uOpen (zeroJ w) hwf
  obtain ⟨v7, hv7⟩ : ∃ v, v = ((get r.txn l).map encJ).getD (.pointer none) := ⟨_, rfl⟩
  obtain ⟨b8, hb8⟩ : ∃ b, b = (get r.txn l).isSome := ⟨_, rfl⟩
  rw [← hv7, ← hb8] at hlk
  have hlk' : (Instr.lookup 110 (.map (some mb)) (.int .i64 r.txn) true).run Try.prog w.drew = .ok (.tuple #[v7, .bool b8]) w.drew := by rw [hv7, hb8]; exact (hm.of_block (w' := w.drew) rfl).run_look_ok (P := Try.prog) Try.underlying3 uOpen (zeroJ _) hwf
  have HV7 := Lib.hid hv7
  have HB8 := Lib.hid hb8
  clear hv7 hb8
  have hE := fun (wx : World) (t : Value) (hx : Opened w wx B jb mb gb fv s a r t) => hx
  have hll : l.length ≤ 100000 := by rw [← h.opn, length_mapv] at hlen; exact hlen
  go_enter Try.func102, Try.ntmps102
  go_wp2_with fail
  go_region_held3 (fun w' => w'.cell? ⟨jb, 1, none⟩ = some (.map (some mb)) ∧ w'.cell? ⟨rb, ro + 1, none⟩ = some (.int .i64 r.txn) ∧ (Instr.lookup 110 (.map (some mb)) (.int .i64 r.txn) true).run Try.prog w' = .ok (.tuple #[v7, .bool b8]) w') (exact ⟨q1, r1, hlk'⟩) (fail)
  simp only [Exit.then]
  refine (by assumption : ∀ (a : Act) (w_1 : World), _ → _) _ _ ?_
  go_upto_if 23 with fail
  go_cut [7] from 22 to 40 (fun t wx => Opened w wx B jb mb gb fv s a r t)
  case first =>
    cases hg : get r.txn l with
    | some e =>
      have HV := Lib.hid (show v7 = encJ e by rw [HV7.out, hg]; rfl)
      have HB := Lib.hid (show b8 = true by rw [HB8.out, hg]; rfl)
      go_wp2_with fail
      · exfalso; have h9 := HB.out; simp_all
      · go_meet
        refine hE _ _ ⟨put r.txn e l, e, HV.out, (h.openT_eq hg).symm, get_put_same, ?_, ?_⟩
        · rw [h.openT_eq hg]
          have h2 := h.turned (w' := w.drew) hg rfl (fun _ _ _ _ => rfl) ((h.ents.ent _ (MapI.get_mem hg)).of_block (w' := w.drew) rfl (fun _ _ => rfl)) (.inr (.inl rfl))
          exact h2
        · exact .same rfl rfl rfl rfl
    | none =>
      have HB := Lib.hid (show b8 = false by rw [HB8.out, hg]; rfl)
      have hm1 : MapIs Try.prog 3 encJ (w.alloc (.cells #[.int .i64 r.txn, .int .i64 a, .int .i64 0, .slice none 0 0] tJx)).drew.drew mb l := hm.kept (w' := (w.alloc (.cells #[.int .i64 r.txn, .int .i64 a, .int .i64 0, .slice none 0 0] tJx)).drew.drew) (row := none) ⟨rfl, rfl, rfl, by show w.heap.size ≤ (w.alloc _).heap.size; simp, fun k hk' _ => Below.heap_alloc w _ k hk'⟩ (by simp)
      obtain ⟨w3, hru, hm3, ht3⟩ := hm1.run_store (P := Try.prog) Try.underlying3 uOpen (by unfold maxLen; omega) hwf (⟨w.heap.size, .slice none 0 0, ⟨r.txn, a, 0, []⟩⟩ : JEnt)
      simp only [encJ] at hru
      go_wp2_with fail
      · go_region_law (refine MapI.step_update_run rfl (.tmp 35) (.tmp 39) (.tmp 40) 110 rfl rfl rfl rfl hru ?_)
        all_goals go_wp2
        all_goals
          go_meet
          exact hE _ _ (opened_new h hB hg hm3 ht3)
      · exfalso; have h9 := HB.out; simp_all
  case rest =>
    obtain ⟨l1, e1, rfl, ht1, hg1, hJ1, hb1⟩ := hcut
    have he1 := hJ1.ents.ent _ (MapI.get_mem hg1)
    dsimp only at he1
    have hr1 := hr.of_block (hb1.block _ hrb)
    have hr1s := RcAt.cells hr1
    clear hlk hlk' HV7 HB8 q1 j0 j1 jp j18 j19 hjb r0 r1 r2 r4 hrl
    obtain ⟨r0, r1, r2, r3, r4, r5, r6, r7, r8, r9, r10⟩ := hr1s
    rw [hk] at r0
    have c2 : wc.cell? ⟨e1.blk, 2, none⟩ = some (.int .i64 e1.tx.last) := by rw [cell_of_block he1.blk]; rfl
    have f2 : wc.frozen? ⟨e1.blk, 2, none⟩ = false := frozen_of_block he1.blk _
    have hne : rb ≠ e1.blk := by have := he1.ge; omega
    simp only [encJ]
    go_wp2_with fail
    go_quiet (fail)
    rename_i nq
    obtain ⟨hJ2, hb2⟩ := hJ1.stamp (a := a) hg1 nq
    have hr2 := hr1.of_block (hb2.block _ hrb)
    obtain ⟨cs2, hjb2, i0, i1, ip, i18, i19⟩ := hJ2.blk.cs
    have hlt2 : rb < ((wc.drewN nq).setCell ⟨e1.blk, 2, none⟩ (.int .i64 a)).heap.size := by have := hb2.size; have := hb1.size; omega
    have hB2 : B ≤ ((wc.drewN nq).setCell ⟨e1.blk, 2, none⟩ (.int .i64 a)).heap.size := by have := hb2.size; have := hb1.size; omega
    have hS := fun c => stands_calls (r := r) (rb := rb) (ro := ro) hJ2.blk.len hjb2 ip hr2 c
    have HS := Lib.hid hS
    have HJ2 := Lib.hid hJ2
    have HR2 := Lib.hid hr2
    have HL := Lib.hid hb2
    clear hS hJ2 hr2 hb2 hjb2 i0 i1 ip i18 i19
    obtain ⟨b, hb⟩ : ∃ b, b = standsJ s.pages r := ⟨_, rfl⟩
    have HS2 := Lib.hid (show ∀ c, Calls Try.prog 123 #[.pointer (some ⟨jb, 0, none⟩), .pointer (some ⟨rb, ro, none⟩)] ((wc.drewN nq).setCell ⟨e1.blk, 2, none⟩ (.int .i64 a)) fun e w' => e = .returned (.bool b) ∧ Below ((wc.drewN nq).setCell ⟨e1.blk, 2, none⟩ (.int .i64 a)).heap.size ((wc.drewN nq).setCell ⟨e1.blk, 2, none⟩ (.int .i64 a)) w' from by rw [hb]; exact HS.out)
    have HB := Lib.hid hb
    clear hb HS
    have hsl : e1.tx.stand.length ≤ 100000 := by rw [ht1]; exact openT_small hst
    have HT1 := Lib.hid ht1
    clear ht1
    cases b
    · go_wp2_with (first | (go_at_call 123; refine (HS2.out hok.bef).mono ?_; rintro e w3 ⟨rfl, b3⟩))
      have HK := Lib.hid hk
      clear hk r0 r1 r2 r3 r4 r5 r6 r7 r8 r9 r10 c2 f2
      have hJ3 := HJ2.out.below b3
      have hr3 := HR2.out.of_block (b3.block _ hlt2)
      have hB3 : B ≤ w3.heap.size := Nat.le_trans hB2 b3.size
      have hg3 : get r.txn (put r.txn (⟨e1.blk, e1.sv, { e1.tx with last := a }⟩ : JEnt) l1) = some ⟨e1.blk, e1.sv, { e1.tx with last := a }⟩ := get_put_same
      have he3 := hJ3.ents.ent _ (MapI.get_mem hg3)
      dsimp only at he3
      obtain ⟨i0, hi, hz0, hz1, hz2⟩ := info_parts infoRc
      obtain ⟨A1, cap1, hv1, hc1, hc2⟩ := he3.own.form
      dsimp only at hv1 hc1
      obtain ⟨A2, n2, c2', hv2⟩ := hok.tx1
      obtain ⟨A3, n3, c3', hv3⟩ := hok.pg1
      obtain ⟨s0, s1, s2, s3, s4, s5, s6, s7, s8, s9, s10⟩ := hr3.cells
      have hX := run_append_cut (P := Try.prog) ((w3.alloc (.cells #[.int .i64 r.kind, .int .i64 r.txn, .int .i64 r.page, .int .i64 r.off, .int .i64 r.prev, .int .i64 r.next, .int .i64 r.begin_, .string r.before, .string r.after, r.txns, r.pages] tRc)).drew)
        116 116 B tRc i0 zeroRc 11 136 Try.underlying116 hi hz0 hz1 hz2 rfl (by decide) e1.sv e1.tx.stand.length (standCells e1.tx.stand)
        (he3.own.of_block fun k hk' => Below.heap_alloc _ _ _ (he3.own.lt k hk').2) ⟨w3.heap.size, 0, none⟩ 1 1 (rcCells r) rfl (World.news_of_block (heap_alloc_new w3 _)) (by simp [rcCells, hv2, hv3, Value.oneCell']) (by decide) (by unfold maxLen; omega) (by omega)
        (by show B ≤ (w3.alloc _).heap.size; simp; omega) (w3.heap.size + 1) (by show (w3.alloc _).heap.size = _; simp)
      obtain ⟨g, cp, w4, hrun, hown4, hg4, hat4, hlt4⟩ := hX
      have hat5 : e1.sv.ownBlock = some g ∨ g = w3.heap.size + 1 := hat4
      obtain ⟨hJ5, hb5⟩ := hJ3.pushed hB3 hg3 hok hg4 hown4 hat4
      have c3 : w3.cell? ⟨e1.blk, 3, none⟩ = some (.slice A1 e1.tx.stand.length cap1) := by rw [cell_of_block he3.blk]; show some e1.sv = _; rw [hv1]
      have hne3 := he3.ne he3
      dsimp only at hne3
      have hlt3 := he3.lt
      dsimp only at hlt3
      have c41 : w4.cell? ⟨e1.blk, 3, none⟩ = some (.slice A1 e1.tx.stand.length cap1) := hg4.cell (a := ⟨e1.blk, 3, none⟩) (by rw [World.cell?_drew, World.cell?_alloc_lt _ _ _ hlt3]; exact c3) hne3
      have f41 : w4.frozen? ⟨e1.blk, 3, none⟩ = false := by
        rw [hg4.frozen_far ⟨e1.blk, 3, none⟩ (by show e1.blk < (w3.alloc _).heap.size; simp; omega) hne3, World.frozen?_drew, World.frozen?_alloc_old _ _ _ (Nat.ne_of_lt hlt3)]
        exact frozen_of_block he3.blk 3
      rw [hv1] at hrun
      have HJ5 := Lib.hid hJ5
      have HB5 := Lib.hid hb5
      clear hJ5 hb5 hJ3 he3 hown4 hg4 hat4 hat5 hv1 hv2 hv3 hg3 hJ1 hg1
      obtain ⟨cs5, hjb5, k0, k1, kp, k18, k19⟩ := HJ5.out.blk.cs
      have hr5 := hr3.of_block (HB5.out.block _ hrb)
      have HC := Lib.hid (set_calls (c := 8) HJ5.out.blk.len hjb5 kp hr5 hok.aft)
      have HF := Lib.hid (fun w6 hb6 hg6 => HJ5.out.set (w' := w6) (r := r) hjb5 k0 k1 kp k18 k19 hb6 hg6)
      clear hjb5 k0 k1 kp k18 k19 hr5
      go_region_law (refine step_append_run rfl (.tmp 72) (.tmp 76) 116 rfl _ _ rfl rfl hrun ?_)
      all_goals go_wp2_with (first | (go_at_call 100; refine HC.out.mono ?_; rintro e w6 ⟨rfl, hb6, hg6⟩))
      all_goals
        go_ret
        refine own_close (HF.out w6 hb6 hg6).1 ?_ ?_ ((hb1.trans HL.out).trans ((Foot.of b3 hB2).trans (HB5.out.trans (HF.out w6 hb6 hg6).2)))
        · unfold ownJ
          rw [if_pos HK.out]
          simp only [put_put, HT1.out]
        · unfold ownJ
          rw [if_pos HK.out, ← HB.out]
          rfl
    · go_wp2_with (first | (go_at_call 123; refine (HS2.out hok.bef).mono ?_; rintro e w3 ⟨rfl, b3⟩))
      have HK := Lib.hid hk
      clear hk r0 r1 r2 r3 r4 r5 r6 r7 r8 r9 r10 c2 f2
      have hJ3 := HJ2.out.below b3
      have hr3 := HR2.out.of_block (b3.block _ hlt2)
      have hB3 : B ≤ w3.heap.size := Nat.le_trans hB2 b3.size
      have hg3 : get r.txn (put r.txn (⟨e1.blk, e1.sv, { e1.tx with last := a }⟩ : JEnt) l1) = some ⟨e1.blk, e1.sv, { e1.tx with last := a }⟩ := get_put_same
      have he3 := hJ3.ents.ent _ (MapI.get_mem hg3)
      dsimp only at he3
      obtain ⟨i0, hi, hz0, hz1, hz2⟩ := info_parts infoRc
      obtain ⟨A1, cap1, hv1, hc1, hc2⟩ := he3.own.form
      dsimp only at hv1 hc1
      obtain ⟨A2, n2, c2', hv2⟩ := hok.tx1
      obtain ⟨A3, n3, c3', hv3⟩ := hok.pg1
      obtain ⟨s0, s1, s2, s3, s4, s5, s6, s7, s8, s9, s10⟩ := hr3.cells
      have hX := run_append_cut (P := Try.prog) ((w3.alloc (.cells #[.int .i64 r.kind, .int .i64 r.txn, .int .i64 r.page, .int .i64 r.off, .int .i64 r.prev, .int .i64 r.next, .int .i64 r.begin_, .string r.before, .string r.after, r.txns, r.pages] tRc)).drew)
        116 116 B tRc i0 zeroRc 11 136 Try.underlying116 hi hz0 hz1 hz2 rfl (by decide) e1.sv e1.tx.stand.length (standCells e1.tx.stand)
        (he3.own.of_block fun k hk' => Below.heap_alloc _ _ _ (he3.own.lt k hk').2) ⟨w3.heap.size, 0, none⟩ 1 1 (rcCells r) rfl (World.news_of_block (heap_alloc_new w3 _)) (by simp [rcCells, hv2, hv3, Value.oneCell']) (by decide) (by unfold maxLen; omega) (by omega)
        (by show B ≤ (w3.alloc _).heap.size; simp; omega) (w3.heap.size + 1) (by show (w3.alloc _).heap.size = _; simp)
      obtain ⟨g, cp, w4, hrun, hown4, hg4, hat4, hlt4⟩ := hX
      have hat5 : e1.sv.ownBlock = some g ∨ g = w3.heap.size + 1 := hat4
      obtain ⟨hJ5, hb5⟩ := hJ3.pushed hB3 hg3 hok hg4 hown4 hat4
      have c3 : w3.cell? ⟨e1.blk, 3, none⟩ = some (.slice A1 e1.tx.stand.length cap1) := by rw [cell_of_block he3.blk]; show some e1.sv = _; rw [hv1]
      have hne3 := he3.ne he3
      dsimp only at hne3
      have hlt3 := he3.lt
      dsimp only at hlt3
      have c41 : w4.cell? ⟨e1.blk, 3, none⟩ = some (.slice A1 e1.tx.stand.length cap1) := hg4.cell (a := ⟨e1.blk, 3, none⟩) (by rw [World.cell?_drew, World.cell?_alloc_lt _ _ _ hlt3]; exact c3) hne3
      have f41 : w4.frozen? ⟨e1.blk, 3, none⟩ = false := by
        rw [hg4.frozen_far ⟨e1.blk, 3, none⟩ (by show e1.blk < (w3.alloc _).heap.size; simp; omega) hne3, World.frozen?_drew, World.frozen?_alloc_old _ _ _ (Nat.ne_of_lt hlt3)]
        exact frozen_of_block he3.blk 3
      rw [hv1] at hrun
      have HJ5 := Lib.hid hJ5
      have HB5 := Lib.hid hb5
      clear hJ5 hb5 hJ3 he3 hown4 hg4 hat4 hat5 hv1 hv2 hv3 hg3 hJ1 hg1
      obtain ⟨cs5, hjb5, k0, k1, kp, k18, k19⟩ := HJ5.out.blk.cs
      have hr5 := hr3.of_block (HB5.out.block _ hrb)
      have HC := Lib.hid (set_calls (c := 8) HJ5.out.blk.len hjb5 kp hr5 hok.aft)
      have HF := Lib.hid (fun w6 hb6 hg6 => HJ5.out.set (w' := w6) (r := r) hjb5 k0 k1 kp k18 k19 hb6 hg6)
      clear hjb5 k0 k1 kp k18 k19 hr5
      go_region_law (refine step_append_run rfl (.tmp 72) (.tmp 76) 116 rfl _ _ rfl rfl hrun ?_)
      all_goals go_wp2_with (first | (go_at_call 100; refine HC.out.mono ?_; rintro e w6 ⟨rfl, hb6, hg6⟩))
      all_goals
        go_ret
        refine own_close (HF.out w6 hb6 hg6).1 ?_ ?_ ((hb1.trans HL.out).trans ((Foot.of b3 hB2).trans (HB5.out.trans (HF.out w6 hb6 hg6).2)))
        · unfold ownJ
          rw [if_pos HK.out]
          simp only [put_put, HT1.out]
        · unfold ownJ
          rw [if_pos HK.out, ← HB.out]
          rfl
end Go.Proofs.Ytepkonhgkabkcaa
