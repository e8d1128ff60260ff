/- Package judge: own, at one kind of record. No condition. -/
import Derived.Test.YtepkonhgkabkcaaJown
namespace Go.Proofs.Ytepkonhgkabkcaa
open Go.RowKit Go.Maps MapI
set_option linter.unusedVariables false
set_option linter.unusedSimpArgs false
set_option maxHeartbeats 2000000 in
set_option maxRecDepth 100000 in
theorem own_two {w : World} {B jb mb gb rb ro : Nat} {l : List (Int × JEnt)} {fv : Value} {s : JSt} {r : Rc} {a : Int} (h : Jud w B jb mb gb l fv s) (hB : B ≤ w.heap.size) (hr : RcAt w rb ro r) (hrb : rb < B) (hok : RcOk r) (hlen : s.opn.length ≤ 100000) (hst : ∀ p ∈ s.opn, p.2.stand.length ≤ 100000) (hk : r.kind = 2) :
    Calls Try.prog 102 #[.pointer (some ⟨jb, 0, none⟩), .int .i64 a, .pointer (some ⟨rb, ro, none⟩)] w (OwnPost w B jb mb gb fv (ownJ s a r)) := by
  obtain ⟨cs, hjb, j0, j1, jp, j18, j19⟩ := h.blk.cs
  have q1 : w.cell? ⟨jb, 1, none⟩ = some (.map (some mb)) := (cell_of_block hjb _).trans j1
  have hjl := lt_of_block hjb
  have hJB := h.hB
  have hm := h.map
  obtain ⟨r0, r1, r2, -, r4, -⟩ := hr.cells
  rw [hk] at r0
  have hrl := World.block_lt_of_cell? w _ r2
  have hwf := hok.wf
  have hlk := hm.run_look_ok (P := Try.prog) Try.underlying3 uOpen (zeroJ w) hwf
  obtain ⟨v7, hv7⟩ : ∃ v, v = ((get r.txn l).map encJ).getD (.pointer none) := ⟨_, rfl⟩
  obtain ⟨b8, hb8⟩ : ∃ b, b = (get r.txn l).isSome := ⟨_, rfl⟩
  rw [← hv7, ← hb8] at hlk
  have hlk' : (Instr.lookup 110 (.map (some mb)) (.int .i64 r.txn) true).run Try.prog w.drew = .ok (.tuple #[v7, .bool b8]) w.drew := by rw [hv7, hb8]; exact (hm.of_block (w' := w.drew) rfl).run_look_ok (P := Try.prog) Try.underlying3 uOpen (zeroJ _) hwf
  have HV7 := Lib.hid hv7
  have HB8 := Lib.hid hb8
  clear hv7 hb8
  have hE := fun (wx : World) (t : Value) (hx : Opened w wx B jb mb gb fv s a r t) => hx
  have hll : l.length ≤ 100000 := by rw [← h.opn, length_mapv] at hlen; exact hlen
  go_enter Try.func102, Try.ntmps102
  go_wp2_with fail
  go_region_held3 (fun w' => w'.cell? ⟨jb, 1, none⟩ = some (.map (some mb)) ∧ w'.cell? ⟨rb, ro + 1, none⟩ = some (.int .i64 r.txn) ∧ (Instr.lookup 110 (.map (some mb)) (.int .i64 r.txn) true).run Try.prog w' = .ok (.tuple #[v7, .bool b8]) w') (exact ⟨q1, r1, hlk'⟩) (fail)
  simp only [Exit.then]
  refine (by assumption : ∀ (a : Act) (w_1 : World), _ → _) _ _ ?_
  go_upto_if 23 with fail
  go_cut [7] from 22 to 40 (fun t wx => Opened w wx B jb mb gb fv s a r t)
  case first =>
    cases hg : get r.txn l with
    | some e =>
      have HV := Lib.hid (show v7 = encJ e by rw [HV7.out, hg]; rfl)
      have HB := Lib.hid (show b8 = true by rw [HB8.out, hg]; rfl)
      go_wp2_with fail
      · exfalso; have h9 := HB.out; simp_all
      · go_meet
        refine hE _ _ ⟨put r.txn e l, e, HV.out, (h.openT_eq hg).symm, get_put_same, ?_, ?_⟩
        · rw [h.openT_eq hg]
          have h2 := h.turned (w' := w.drew) hg rfl (fun _ _ _ _ => rfl) ((h.ents.ent _ (MapI.get_mem hg)).of_block (w' := w.drew) rfl (fun _ _ => rfl)) (.inr (.inl rfl))
          exact h2
        · exact .same rfl rfl rfl rfl
    | none =>
      have HB := Lib.hid (show b8 = false by rw [HB8.out, hg]; rfl)
      have hm1 : MapIs Try.prog 3 encJ (w.alloc (.cells #[.int .i64 r.txn, .int .i64 a, .int .i64 0, .slice none 0 0] tJx)).drew.drew mb l := hm.kept (w' := (w.alloc (.cells #[.int .i64 r.txn, .int .i64 a, .int .i64 0, .slice none 0 0] tJx)).drew.drew) (row := none) ⟨rfl, rfl, rfl, by show w.heap.size ≤ (w.alloc _).heap.size; simp, fun k hk' _ => Below.heap_alloc w _ k hk'⟩ (by simp)
      obtain ⟨w3, hru, hm3, ht3⟩ := hm1.run_store (P := Try.prog) Try.underlying3 uOpen (by unfold maxLen; omega) hwf (⟨w.heap.size, .slice none 0 0, ⟨r.txn, a, 0, []⟩⟩ : JEnt)
      simp only [encJ] at hru
      go_wp2_with fail
      · go_region_law (refine MapI.step_update_run rfl (.tmp 35) (.tmp 39) (.tmp 40) 110 rfl rfl rfl rfl hru ?_)
        all_goals go_wp2
        all_goals
          go_meet
          exact hE _ _ (opened_new h hB hg hm3 ht3)
      · exfalso; have h9 := HB.out; simp_all
  case rest =>
    obtain ⟨l1, e1, rfl, ht1, hg1, hJ1, hb1⟩ := hcut
    have he1 := hJ1.ents.ent _ (MapI.get_mem hg1)
    dsimp only at he1
    have hr1 := hr.of_block (hb1.block _ hrb)
    have hr1s := RcAt.cells hr1
    clear hlk hlk' HV7 HB8 q1 j0 j1 jp j18 j19 hjb r0 r1 r2 r4 hrl
    obtain ⟨r0, r1, r2, r3, r4, r5, r6, r7, r8, r9, r10⟩ := hr1s
    rw [hk] at r0
    have c2 : wc.cell? ⟨e1.blk, 2, none⟩ = some (.int .i64 e1.tx.last) := by rw [cell_of_block he1.blk]; rfl
    have f2 : wc.frozen? ⟨e1.blk, 2, none⟩ = false := frozen_of_block he1.blk _
    have hne : rb ≠ e1.blk := by have := he1.ge; omega
    simp only [encJ]
    go_wp2_with fail
    go_quiet (fail)
    rename_i nq
    obtain ⟨hJ2, hb2⟩ := hJ1.stamp (a := a) hg1 nq
    have hr2 := hr1.of_block (hb2.block _ hrb)
    obtain ⟨cs2, hjb2, i0, i1, ip, i18, i19⟩ := hJ2.blk.cs
    have hlt2 : rb < ((wc.drewN nq).setCell ⟨e1.blk, 2, none⟩ (.int .i64 a)).heap.size := by have := hb2.size; have := hb1.size; omega
    have hB2 : B ≤ ((wc.drewN nq).setCell ⟨e1.blk, 2, none⟩ (.int .i64 a)).heap.size := by have := hb2.size; have := hb1.size; omega
    have hg2 : get r.txn (put r.txn (⟨e1.blk, e1.sv, { e1.tx with last := a }⟩ : JEnt) l1) = some ⟨e1.blk, e1.sv, { e1.tx with last := a }⟩ := get_put_same
    have hU := undone_calls hJ2 hg2 hB2 hr2 hrb
    obtain ⟨b, hb⟩ : ∃ b, b = undoneOk (openT s a r) r := ⟨_, rfl⟩
    have hub : undoneOk { e1.tx with last := a } r = b := by rw [hb, ← ht1]; rfl
    dsimp only at hU
    rw [hub] at hU
    have HU := Lib.hid hU
    have HR2 := Lib.hid hr2
    have HL := Lib.hid hb2
    have HB := Lib.hid hb
    have HT1 := Lib.hid ht1
    clear hU hJ2 hr2 hb2 hjb2 i0 i1 ip i18 i19 hub hb ht1 hJ1 hg1 hg2
    cases b
    · go_wp2_with (first
        | (go_at_call 124; refine HU.out.mono ?_; rintro e w3 ⟨rfl, e3, h3b, h3t, hJ3, hb3⟩)
        | (go_at_call 100; obtain ⟨cs5, hjb5, k0, k1, kp, k18, k19⟩ := hJ3.blk.cs; have hr5 := HR2.out.of_block (hb3.block _ hrb); refine (set_calls hJ3.blk.len hjb5 kp hr5 hok.aft).mono ?_; rintro e w6 ⟨rfl, hb6, hg6⟩; obtain ⟨hJ6, hb7⟩ := hJ3.set hjb5 k0 k1 kp k18 k19 hb6 hg6))
      go_ret
      refine own_close hJ6 ?_ ?_ ((hb1.trans HL.out).trans (hb3.trans hb7))
      · unfold ownJ
        rw [if_neg (by omega), if_pos hk]
        simp only [put_put, HT1.out, popped]
      · unfold ownJ
        rw [if_neg (by omega), if_pos hk, ← HB.out]
        first | rfl | simp [HT1.out]
    · go_wp2_with (first
        | (go_at_call 124; refine HU.out.mono ?_; rintro e w3 ⟨rfl, e3, h3b, h3t, hJ3, hb3⟩)
        | (go_at_call 100; obtain ⟨cs5, hjb5, k0, k1, kp, k18, k19⟩ := hJ3.blk.cs; have hr5 := HR2.out.of_block (hb3.block _ hrb); refine (set_calls hJ3.blk.len hjb5 kp hr5 hok.aft).mono ?_; rintro e w6 ⟨rfl, hb6, hg6⟩; obtain ⟨hJ6, hb7⟩ := hJ3.set hjb5 k0 k1 kp k18 k19 hb6 hg6))
      go_ret
      refine own_close hJ6 ?_ ?_ ((hb1.trans HL.out).trans (hb3.trans hb7))
      · unfold ownJ
        rw [if_neg (by omega), if_pos hk]
        simp only [put_put, HT1.out, popped]
      · unfold ownJ
        rw [if_neg (by omega), if_pos hk, ← HB.out]
        first | rfl | simp [HT1.out]
end Go.Proofs.Ytepkonhgkabkcaa
