/- Package judge: entry. No condition. -/
import Derived.Test.YtepkonhgkabkcaaJent
namespace Go.Proofs.Ytepkonhgkabkcaa
open Go.RowKit Go.Maps MapI
set_option linter.unusedVariables false
set_option linter.unusedSimpArgs false
theorem uBeg : Try.prog.underlying 26 = some (.map 3 3) := Try.underlying26
theorem zeroN (w : World) : (zeroValue 3).run Try.prog w = .ok (.int .i64 0) w := by kernel_rfl
set_option maxHeartbeats 2000000 in
set_option maxRecDepth 100000 in
theorem entry_five {w : World} {B jb mb gb b o : Nat} {l : List (Int × JEnt)} {fv : Value} {s : JSt} {r : Rc} {a : Int} (h : Jud w B jb mb gb l fv s) (hB : B ≤ w.heap.size) (hx : EntAt w b o a r) (hrb : b < B) (hok : RcOk r) (hwa : (Lit.int .i64 a).wf = true)
    (hlen : s.opn.length ≤ 100000) (hbl : s.begun.length ≤ 100000) (hst : ∀ p ∈ s.opn, p.2.stand.length ≤ 100000) (hk : r.kind = 5) :
    Calls Try.prog 54 #[.pointer (some ⟨jb, 0, none⟩), .pointer (some ⟨b, o, none⟩)] w (OwnPost w B jb mb gb fv (entryJ s a r)) := by
  obtain ⟨x0, hr⟩ := hx
  obtain ⟨cs, hjb, j0, j1, jp, j18, j19⟩ := h.blk.cs
  have q0 : w.cell? ⟨jb, 0, none⟩ = some (.int .i64 s.last) := (cell_of_block hjb _).trans j0
  have f0 : w.frozen? ⟨jb, 0, none⟩ = false := frozen_of_block hjb _
  have hJB := h.hB
  have hne : b ≠ jb := by omega
  have hrs := RcAt.cells hr
  obtain ⟨r0, r1, -, -, -, -, r6, -⟩ := hrs
  rw [hk] at r0
  go_enter Try.func54, Try.ntmps54
  go_wp2_with fail
  go_quiet (fail)
  rename_i nq
  go_wp2_with fail
  obtain ⟨hJ2, hb2⟩ := h.lasted a (nq + 1)
  go_region
  simp only [Exit.then]
  refine (by assumption : ∀ (a : Act) (w_1 : World), Code.wp _ _ _ _ _ → _) _ _ ?_
  obtain ⟨cs2, hjb2, i0, i1, ip, i18, i19⟩ := hJ2.blk.cs
  have q18 : ((w.drewN (nq + 1)).setCell ⟨jb, 0, none⟩ (.int .i64 (max s.last a))).cell? ⟨jb, 18, none⟩ = some (.map (some gb)) := (cell_of_block hjb2 _).trans i18
  have w18 : w.cell? ⟨jb, 18, none⟩ = some (.map (some gb)) := (cell_of_block hjb _).trans j18
  have x3 : ((w.drewN (nq + 1)).setCell ⟨jb, 0, none⟩ (.int .i64 (max s.last a))).cell? ⟨b, o, none⟩ = some (.int .i64 a) := (World.cell?_of_block (a := ⟨b, o, none⟩) (hb2.block _ hrb)).trans x0
  have hm2 : MapI.MapIs Try.prog 3 encN ((w.drewN (nq + 1)).setCell ⟨jb, 0, none⟩ (.int .i64 (max s.last a))).drew gb s.begun := hJ2.beg.of_block rfl
  have hl := hm2.run_look (P := Try.prog) Try.underlying3 uBeg (zeroN _) hwa
  obtain ⟨v, hv⟩ : ∃ v, v = (get a s.begun).getD 0 := ⟨_, rfl⟩
  have hv' : ((get a s.begun).map encN).getD (.int .i64 0) = .int .i64 v := by rw [hv]; cases get a s.begun <;> rfl
  rw [hv'] at hl
  obtain ⟨w3, hru, hm3, ht3⟩ := hm2.run_store (P := Try.prog) Try.underlying3 uBeg (by unfold maxLen; omega) hwa (IntKind.i64.wrap (v + 1))
  simp only [encN] at hru
  have HD := Lib.hid (hJ2.begunTo (w' := w3) (fun k hk1 hne => ht3.grown.block k hk1 (by simpa using hne)) hm3)
  have HG := Lib.hid (foot_turned hJ2.beg hJ2.hgb ht3)
  have HB := Lib.hid hb2
  have HV := Lib.hid hv
  clear hJ2 hb2 hjb j0 j1 jp j18 j19 hm2 hm3 ht3 hjb2 i0 i1 ip i18 i19 hv hv'
  go_wp2_with fail
  go_region
  all_goals
    try simp only [Exit.inBlock, Exit.then]
    try refine (by assumption : ∀ (a : Act) (w_1 : World), Code.wp _ _ _ _ _ → _) _ _ ?_
    go_wp2_with fail
    go_ret
    refine own_close HD.out ?_ ?_ (HB.out.trans HG.out)
    · unfold entryJ
      rw [if_neg (by omega), if_pos hk, ← HV.out]
    · unfold entryJ
      rw [if_neg (by omega), if_pos hk]
end Go.Proofs.Ytepkonhgkabkcaa
