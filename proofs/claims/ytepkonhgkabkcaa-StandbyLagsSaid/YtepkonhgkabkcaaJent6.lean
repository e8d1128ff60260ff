/- Package judge: entry. No condition. -/
import Derived.Test.YtepkonhgkabkcaaJent5
namespace Go.Proofs.Ytepkonhgkabkcaa
open Go.RowKit Go.Maps MapI
set_option linter.unusedVariables false
set_option linter.unusedSimpArgs false
set_option maxHeartbeats 2000000 in
set_option maxRecDepth 100000 in
theorem entry_six {w : World} {B jb mb gb b o : Nat} {l : List (Int × JEnt)} {fv : Value} {s : JSt} {r : Rc} {a : Int} (h : Jud w B jb mb gb l fv s) (hB : B ≤ w.heap.size) (hx : EntAt w b o a r) (hrb : b < B) (hok : RcOk r) (hwa : (Lit.int .i64 a).wf = true)
    (hlen : s.opn.length ≤ 100000) (hbl : s.begun.length ≤ 100000) (hst : ∀ p ∈ s.opn, p.2.stand.length ≤ 100000) (hk : r.kind = 6) :
    Calls Try.prog 54 #[.pointer (some ⟨jb, 0, none⟩), .pointer (some ⟨b, o, none⟩)] w (OwnPost w B jb mb gb fv (entryJ s a r)) := by
  obtain ⟨x0, hr⟩ := hx
  obtain ⟨cs, hjb, j0, j1, jp, j18, j19⟩ := h.blk.cs
  have q0 : w.cell? ⟨jb, 0, none⟩ = some (.int .i64 s.last) := (cell_of_block hjb _).trans j0
  have f0 : w.frozen? ⟨jb, 0, none⟩ = false := frozen_of_block hjb _
  have hJB := h.hB
  have hne : b ≠ jb := by omega
  have hrs := RcAt.cells hr
  obtain ⟨r0, r1, -, -, -, -, r6, -⟩ := hrs
  rw [hk] at r0
  go_enter Try.func54, Try.ntmps54
  go_wp2_with fail
  go_quiet (fail)
  rename_i nq
  go_wp2_with fail
  obtain ⟨hJ2, hb2⟩ := h.lasted a (nq + 1)
  go_region
  simp only [Exit.then]
  refine (by assumption : ∀ (a : Act) (w_1 : World), Code.wp _ _ _ _ _ → _) _ _ ?_
  obtain ⟨cs2, hjb2, i0, i1, ip, i18, i19⟩ := hJ2.blk.cs
  have q18 : ((w.drewN (nq + 1)).setCell ⟨jb, 0, none⟩ (.int .i64 (max s.last a))).cell? ⟨jb, 18, none⟩ = some (.map (some gb)) := (cell_of_block hjb2 _).trans i18
  have w18 : w.cell? ⟨jb, 18, none⟩ = some (.map (some gb)) := (cell_of_block hjb _).trans j18
  obtain ⟨v, hv⟩ : ∃ v, v = (get r.begin_ s.begun).getD 0 := ⟨_, rfl⟩
  have hv' : ((get r.begin_ s.begun).map encN).getD (.int .i64 0) = .int .i64 v := by rw [hv]; cases get r.begin_ s.begun <;> rfl
  have hm2 : ∀ N, MapI.MapIs Try.prog 3 encN (((w.drewN (nq + 1)).setCell ⟨jb, 0, none⟩ (.int .i64 (max s.last a))).drewN N) gb s.begun := fun N => hJ2.beg.of_block rfl
  have hl := fun N => (hm2 N).run_look (P := Try.prog) Try.underlying3 uBeg (zeroN _) hok.wfb
  simp only [hv'] at hl
  have HB := Lib.hid hb2
  have HJ := Lib.hid hJ2
  have HV := Lib.hid hv
  clear hJ2 hb2 hjb j0 j1 jp j18 j19 hm2 hjb2 i0 i1 ip i18 i19 hv hv'
  generalize hW : (w.drewN (nq + 1)).setCell ⟨jb, 0, none⟩ (.int .i64 (max s.last a)) = W at *
  have r30 : W.cell? ⟨b, o + 1, none⟩ = some (.int .i64 r.kind) := (World.cell?_of_block (a := ⟨b, o + 1, none⟩) (HB.out.block _ hrb)).trans (hr 0 _ rfl)
  have r36 : W.cell? ⟨b, o + 1 + 6, none⟩ = some (.int .i64 r.begin_) := (World.cell?_of_block (a := ⟨b, o + 1 + 6, none⟩) (HB.out.block _ hrb)).trans (hr 6 _ rfl)
  rw [hk] at r30
  clear hW
  cases hd : decide (s.last < a)
  · go_wp2_with fail
    go_quiet (fail)
    go_wp2_with fail
    go_ret
    refine own_close (HJ.out.drew _) ?_ ?_ (HB.out.trans (.same rfl rfl rfl rfl))
    · unfold entryJ
      rw [if_neg (by omega), if_neg (by omega), if_pos hk]
    · unfold entryJ
      rw [if_neg (by omega), if_neg (by omega), if_pos hk, ← HV.out, hd]
      first | rfl | simp

  · go_wp2_with fail
    go_quiet (fail)
    go_wp2_with fail
    go_ret
    refine own_close (HJ.out.drew _) ?_ ?_ (HB.out.trans (.same rfl rfl rfl rfl))
    · unfold entryJ
      rw [if_neg (by omega), if_neg (by omega), if_pos hk]
    · unfold entryJ
      rw [if_neg (by omega), if_neg (by omega), if_pos hk, ← HV.out, hd]
      first | rfl | simp
set_option maxHeartbeats 2000000 in
set_option maxRecDepth 100000 in
theorem entry_else {w : World} {B jb mb gb b o : Nat} {l : List (Int × JEnt)} {fv : Value} {s : JSt} {r : Rc} {a : Int} (h : Jud w B jb mb gb l fv s) (hB : B ≤ w.heap.size) (hx : EntAt w b o a r) (hrb : b < B) (hok : RcOk r) (hwa : (Lit.int .i64 a).wf = true)
    (hk1 : (r.kind == 1) = false) (hk2 : (r.kind == 2) = false) (hk3 : (r.kind == 3) = false) (hk4 : (r.kind == 4) = false) (hk5 : (r.kind == 5) = false) (hk6 : (r.kind == 6) = false) :
    Calls Try.prog 54 #[.pointer (some ⟨jb, 0, none⟩), .pointer (some ⟨b, o, none⟩)] w (OwnPost w B jb mb gb fv (entryJ s a r)) := by
  obtain ⟨x0, hr⟩ := hx
  obtain ⟨cs, hjb, j0, j1, jp, j18, j19⟩ := h.blk.cs
  have q0 : w.cell? ⟨jb, 0, none⟩ = some (.int .i64 s.last) := (cell_of_block hjb _).trans j0
  have f0 : w.frozen? ⟨jb, 0, none⟩ = false := frozen_of_block hjb _
  have hJB := h.hB
  have hne : b ≠ jb := by omega
  have hrs := RcAt.cells hr
  obtain ⟨r0, r1, -, -, -, -, r6, -⟩ := hrs
  go_enter Try.func54, Try.ntmps54
  go_wp2_with fail
  go_quiet (fail)
  rename_i nq
  go_wp2_with fail
  obtain ⟨hJ2, hb2⟩ := h.lasted a (nq + 1)
  go_region
  simp only [Exit.then]
  refine (by assumption : ∀ (a : Act) (w_1 : World), Code.wp _ _ _ _ _ → _) _ _ ?_
  have HB := Lib.hid hb2
  have HJ := Lib.hid hJ2
  have e1 : entryJ s a r = (lastJ s a, false) := by
    unfold entryJ
    simp only [beq_eq_false_iff_ne, ne_eq] at hk1 hk2 hk3 hk4 hk5 hk6
    rw [if_neg (by omega), if_neg hk5, if_neg hk6]
  have HE := Lib.hid e1
  clear hJ2 hb2 hjb j0 j1 jp j18 j19 e1
  go_wp2_with fail
  go_ret
  refine own_close HJ.out ?_ ?_ HB.out
  · rw [HE.out]
  · rw [HE.out]
end Go.Proofs.Ytepkonhgkabkcaa
