/- Package standby: the walk of Promote. Condition: what the library says of the sort (SortSays, SortNone), paid where it is laid. -/
import Derived.Test.YtepkonhgkabkcaaSb8
import Derived.Test.YtepkonhgkabkcaaSb9
import Derived.StillTailTactics
namespace Go.Proofs.Ytepkonhgkabkcaa
open Go.RowKit Go.Maps MapI Go.Sort Go.Shelf
set_option linter.unusedVariables false
set_option linter.unusedSimpArgs false

theorem Lst.of_drew {w : World} {A : Option Addr} {b o : Nat} {es : List En} (h : Lst w A b o es) : Lst w.drew A b o es := h.below ⟨rfl, rfl, rfl, Nat.le_refl _, fun _ _ => rfl⟩
theorem standRc {w : World} {M g c : Nat} {rs : List Rc} (h : w.ownsRow M tRc 11 (.slice (some ⟨g, 0, none⟩) rs.length c) rs.length (standCells rs)) {j : Nat} {r : Rc} (hr : rs[j]? = some r) : RcAt w g (j * 11) r := fun i v hi =>
  Cut.cells (.inl h) (g := g) rfl _ _ (standCells_get hr i v hi)
theorem Lst.owned {w : World} {B : Nat} {A : Option Addr} {n c : Nat} {es : List En} (h : w.ownsRow B 32 12 (.slice A n c) n (enCells es)) (hn : n = es.length) : ∃ b, Lst w A b 0 es := by
  subst hn
  by_cases hz : es = []
  · subst hz
    exact ⟨0, fun h => absurd rfl h, fun h => absurd rfl h, fun i x hx => by simp at hx⟩
  have hpos : 0 < es.length := List.length_pos_iff.2 hz
  obtain ⟨g, cap, e, -, -⟩ := Cut.formS (.inl h) hpos
  injection e with e1 e2 e3
  subst e1
  have hc := fun (j : Nat) (u : Value) (hu : (enCells es)[j]? = some u) => Cut.cells (.inl h) (g := g) rfl j u hu
  refine ⟨g, fun _ => rfl, fun _ => ?_, fun i x hx => ?_⟩
  · exact (Cut.lt (.inl h) g rfl).2
  · have key : ∀ j u, (Value.int .i64 x.1 :: rcCells x.2)[j]? = some u → w.cell? ⟨g, 0 + i * 12 + j, none⟩ = some u := fun j u hu => by
      rw [Nat.zero_add]; exact hc _ _ (enCells_get hx j u hu)
    refine ⟨key 0 _ rfl, fun j u hu => ?_⟩
    have := key (j + 1) u (by simpa using hu)
    rw [show 0 + i * 12 + 1 + j = 0 + i * 12 + (j + 1) from by omega]
    exact this
set_option maxHeartbeats 8000000 in
set_option maxRecDepth 100000 in
theorem promote_of (HS : ∀ bx : Nat, SortSays 92 93 #[.pointer (some ⟨bx, 0, none⟩)]) {s : Sb} (HN : s.last = [] → SortNone 92) {w : World} {B sb pb mb cap : Nat} {lv : Value} (h : SbAt w B sb pb mb cap lv s) (hd : Dist s) :
    Calls Try.prog 43 #[.pointer (some ⟨sb, 0, none⟩)] w (PromPost w s) := by
  have c0 : w.cell? ⟨sb, 0, none⟩ = some (.slice (some ⟨pb, 0, none⟩) s.pages.length cap) := cell_of_block h.blk 0
  obtain ⟨csp, hpb, hinp⟩ := h.pgs
  have hB0 : Below w.heap.size w (w.alloc (.cells #[.pointer (some ⟨sb, 0, none⟩)] 73)) := (Below.refl _ w).alloc (Nat.le_refl _) _
  have hlsb := lt_of_block h.blk
  have hlmb := h.map.lt
  have HC := Lib.hid (clone2_calls (w := w.alloc (.cells #[.pointer (some ⟨sb, 0, none⟩)] 73)) (c := cap) h.one.1 h.one.2 (alloc_blk hpb _) hinp)
  have hfew := h.few
  obtain ⟨A2, c2, hlv, hc2, -⟩ := Cut.form (.inl h.row)
  obtain ⟨lb, hL⟩ := Lst.owned (by rw [← hlv]; exact h.row) rfl
  have hol : (ordS s).length = s.last.length := ordS_length s
  have HH := Lib.hid h
  have HDI := Lib.hid hd
  clear hpb hinp h hd
  go_enter Try.func43, Try.ntmps43
  go_wp2_with fail
  go_at_call 91
  refine HC.out.mono ?_
  rintro e w1 ⟨g2, cap2, cur, rfl, hg2, hp1, hin1, b1⟩
  have z1 := b1.size
  rw [World.size_alloc] at z1 hg2
  have hx1 : w1.heap[w.heap.size]? = some (.cells #[.pointer (some ⟨sb, 0, none⟩)] 73 (0, 0)) := (b1.block _ (by simp)).trans (heap_alloc_new _ _)
  have x1 : w1.cell? ⟨w.heap.size, 0, none⟩ = some (.pointer (some ⟨sb, 0, none⟩)) := cell_of_block hx1 0
  have bw1 : Below w.heap.size w w1 := hB0.trans (b1.mono (by simp))
  have hS1 := HH.out.below bw1
  have hl1 := lt_of_block hp1
  have HP1 := Lib.hid hp1
  have HX1 := Lib.hid hx1
  have HO := Lib.hid (openS_calls hS1)
  clear hp1 hx1 hS1
  go_wp2_with fail
  go_at_call 41
  refine HO.out.mono ?_
  rintro e w2 ⟨v, rfl, hr2, b2⟩
  obtain ⟨A, c, rfl, hc, -⟩ := Cut.form (.inl hr2)
  have z2 := b2.size
  have hx2 := (b2.block _ (by omega)).trans HX1.out
  have bw2 : Below w.heap.size w w2 := bw1.trans (b2.mono (by omega))
  have hS2 := HH.out.below bw2
  have hSo := sortK_calls (keys := s.last.map Prod.fst) (HS w.heap.size) (fun e => HN (List.map_eq_nil_iff.1 e)) hx2 hS2.blk hS2.map (by simp) (fun k hk => by obtain ⟨p, hp, rfl⟩ := List.mem_map.1 hk; exact HH.out.wfk p hp) (by simp; omega) hr2 HDI.out ⟨by omega, by omega, by omega⟩
  have HSo := Lib.hid hSo
  have HP2 := Lib.hid ((b2.block _ hl1).trans HP1.out)
  clear hx2 hS2 hSo HP1 HO HC
  go_wp2_with fail
  go_at_call 92
  refine HSo.out.mono ?_
  rintro e w3 ⟨rfl, hr3, b3⟩
  have z3 := b3.size
  have bw3 : Below w.heap.size w w3 := bw2.trans (b3.mono (by omega))
  have hpj : PJ w w.heap.size sb g2 (.slice A s.last.length c) w1.heap.size (ordS s) s.pages w3 := by
    refine ⟨(b3.block _ (by omega)).trans ((b2.block _ (by omega)).trans HX1.out), ?_, ⟨cur, (b3.block _ (by omega)).trans HP2.out, hin1⟩, by omega, bw3⟩
    rw [hol]; exact hr3
  have HPJ := Lib.hid hpj
  clear hpj hr3 hr2 HP2 hin1 x1 b1 b2 b3 bw1 bw2 HSo
  rw [← hol] at HPJ
  obtain ⟨no, hno⟩ : ∃ n, n = s.last.length := ⟨_, rfl⟩
  rw [← hno] at hol
  rw [← hno]
  rw [← hol]
  have hob : (ordS s).length ≤ 100000 := by omega
  have HOL := Lib.hid hol
  clear hol hno
  go_wp2_with fail
  go_loopg [26, 2, 3] (ordS s).length (fun k iv r2 r3 wr => ∃ (i : Nat) (ps : List Pg), i + k = (ordS s).length ∧ iv = .int .i64 i ∧ r2 = .slice none 0 0 ∧ r3 = .int .i64 0 ∧ ps.length = s.pages.length ∧ promS s.list s.last ((ordS s).drop i) ps = promC s ∧ PJ w w.heap.size sb g2 (.slice A (ordS s).length c) w1.heap.size (ordS s) ps wr)
  case atStart => exact ⟨0, s.pages, by omega, rfl, rfl, rfl, rfl, rfl, HPJ.out⟩
  case round =>
    obtain ⟨wo, rfl⟩ : ∃ wo : World, wo = wr := ⟨_, rfl⟩
    obtain ⟨ko, rfl⟩ : ∃ ko : Nat, ko = gk := ⟨_, rfl⟩
    obtain ⟨i, ps, hik, rfl, rfl, rfl, hpl, hpr, hP⟩ := hrel
    by_cases hlt : i < (ordS s).length
    · obtain ⟨k, hk⟩ : ∃ k, (ordS s)[i]? = some k := ⟨_, List.getElem?_eq_getElem hlt⟩
      obtain ⟨go, cp, hA, -, -⟩ := Cut.formS (.inl hP.row) (by omega)
      injection hA with hA hA2 hA3
      subst hA hA3
      clear hA2
      have hkm := ordS_mem (List.mem_of_getElem? hk)
      have hkw : (Lit.int .i64 k).wf = true := by obtain ⟨p, hp, rfl⟩ := List.mem_map.1 hkm; exact HH.out.wfk p hp
      have d0 : wo.cell? ⟨go, i, none⟩ = some (.int .i64 k) := Cut.cells (.inl hP.row) (g := go) rfl i _ (by rw [List.getElem?_map, hk]; rfl)
      have x0 : wo.cell? ⟨w.heap.size, 0, none⟩ = some (.pointer (some ⟨sb, 0, none⟩)) := cell_of_block hP.box 0
      have hSo := HH.out.below hP.bel
      have x1 : wo.cell? ⟨sb, 1, none⟩ = some (.slice A2 s.list.length c2) := by rw [cell_of_block hSo.blk 1, hlv]; rfl
      have x2 : wo.cell? ⟨sb, 2, none⟩ = some (.map (some mb)) := cell_of_block hSo.blk 2
      have hlk := fun (W : World) (hW : W.heap[mb]? = wo.heap[mb]?) => run_last (W := W) (hSo.map.of_block hW) hkw
      have lbx := lt_of_block hP.box
      have lbs := lt_of_block hSo.blk
      have lbm := hSo.map.lt
      have HU := Lib.hid (chUndo_calls (w := wo.drew) (c := c2) (last := lastOf s.last k) ((hL.below hP.bel).of_drew) HH.out.ok hkw (by omega))
      obtain ⟨u, hu⟩ : ∃ u, u = undoC s.list k (lastOf s.last k) := ⟨_, rfl⟩
      obtain ⟨la, hla⟩ : ∃ la, la = lastOf s.last k := ⟨_, rfl⟩
      have hul : u.1.length ≤ 1000000 := by rw [hu]; exact Nat.le_trans (undoC_len _ _ _) (by omega)
      have huo : ∀ r ∈ u.1, RcOk r := by rw [hu]; exact undoC_ok HH.out.ok hkw
      have hdr : promS s.list s.last ((ordS s).drop i) ps = if u.2 = 0 then promS s.list s.last ((ordS s).drop (i + 1)) (undoAll ps u.1) else ([], u.2) := by
        rw [List.drop_eq_getElem_cons hlt, show (ordS s)[i] = k from by rw [List.getElem?_eq_getElem hlt] at hk; injection hk, hu]
        rfl
      rw [← hu, ← hla] at HU
      have hlk2 : ∀ W : World, W.heap[mb]? = wo.heap[mb]? → (Instr.lookup 26 (.map (some mb)) (.int .i64 k) false).run Try.prog W = .ok (.int .i64 la) W := fun W hW => by rw [hla]; exact hlk W hW
      have q3 := hlk2 wo.drew rfl
      have q0 : wo.drew.cell? ⟨w.heap.size, 0, none⟩ = some (.pointer (some ⟨sb, 0, none⟩)) := x0
      have q1 : wo.drew.cell? ⟨sb, 1, none⟩ = some (.slice A2 s.list.length c2) := x1
      have q2 : wo.drew.cell? ⟨sb, 2, none⟩ = some (.map (some mb)) := x2
      have HLK := Lib.hid hlk2
      rw [hdr] at hpr
      have b2 : (0 : Int) ≤ (i : Int) := by omega
      have b3 : (i : Int) < ((ordS s).length : Int) := by omega
      have HPP := Lib.hid hP
      have HPR := Lib.hid hpr
      have HUO := Lib.hid huo
      clear hu hla hdr hpr hSo hk hkm hP huo hlk hlk2
      go_wp2_with fail
      go_region_held3 (fun w' => w'.cell? ⟨w.heap.size, 0, none⟩ = some (.pointer (some ⟨sb, 0, none⟩)) ∧ w'.cell? ⟨sb, 1, none⟩ = some (.slice A2 s.list.length c2) ∧ w'.cell? ⟨sb, 2, none⟩ = some (.map (some mb)) ∧ (Instr.lookup 26 (.map (some mb)) (.int .i64 k) false).run Try.prog w' = .ok (.int .i64 la) w') (first | exact ⟨q0, q1, q2, q3⟩ | exact ⟨y0, y1, y2, y3⟩) (first | (go_at_call 81; (refine HU.out.mono ?_); rintro e w4 ⟨vu, rfl, hru, bu⟩; have y0 := (bu.cell (p := ⟨w.heap.size, 0, none⟩) lbx).trans q0; have y1 := (bu.cell (p := ⟨sb, 1, none⟩) lbs).trans q1; have y2 := (bu.cell (p := ⟨sb, 2, none⟩) lbs).trans q2; have y3 := HLK.out w4 (bu.block mb lbm)))
      simp only [Exit.then]
      refine (by assumption : ∀ (a : Act) (w_1 : World), Code.wp _ _ _ _ _ → _) _ _ ?_
      have bo4 : Below wo.heap.size wo w4 := ⟨bu.os, bu.tape, bu.output, bu.size, bu.block⟩
      have z4 : wo.heap.size ≤ w4.heap.size := bu.size
      by_cases hcode : u.2 = 0
      · have t9 : (u.2 != 0) = false := by simp [hcode]
        obtain ⟨Au, cu, rfl, hcu, -⟩ := Cut.form (.inl hru)
        have HRU := Lib.hid hru
        have hpj4 := Lib.hid (HPP.out.below bo4)
        have HCODE := Lib.hid hcode
        clear hru hcode bu y0 y1 y2 y3 q0 q1 q2 q3 x0 x1 x2 d0 HU HLK
        go_wp2_with fail
        go_loopg [50] u.1.length (fun k iv wr => ∃ j : Nat, j + k = u.1.length ∧ iv = .int .i64 j ∧ PJ w w.heap.size sb g2 (.slice (some ⟨go, 0, none⟩) (ordS s).length c) w1.heap.size (ordS s) (undoAll ps (u.1.take j)) wr ∧ wr.ownsRow wo.heap.size tRc 11 (.slice Au u.1.length cu) u.1.length (standCells u.1))
        case atStart => exact ⟨0, by omega, rfl, hpj4.out, HRU.out⟩
        case round =>
          obtain ⟨wx, rfl⟩ : ∃ wx : World, wx = wr := ⟨_, rfl⟩
          obtain ⟨kx, rfl⟩ : ∃ kx : Nat, kx = gk := ⟨_, rfl⟩
          obtain ⟨j, hjk, rfl, hQ, hR⟩ := hrel
          by_cases hlj : j < u.1.length
          · obtain ⟨r, hr⟩ : ∃ r, u.1[j]? = some r := ⟨_, List.getElem?_eq_getElem hlj⟩
            obtain ⟨gu, cq, hA, -, -⟩ := Cut.formS (.inl hR) (by omega)
            injection hA with hA hA2 hA3
            subst hA hA3
            clear hA2
            have hro := HUO.out r (List.mem_of_getElem? hr)
            have hrc := standRc hR hr
            obtain ⟨A3, n3, c3, e3⟩ := hro.tx1
            obtain ⟨A4, n4, c4, e4⟩ := hro.pg1
            obtain ⟨d0, d1, d2, d3, d4, d5, d6, d7, d8, d9, d10⟩ := hrc.cells
            rw [e3] at d9
            rw [e4] at d10
            obtain ⟨csx, hpx, hinx⟩ := hQ.pgs
            have hlx := lt_of_block hpx
            have htk : undoAll ps (u.1.take (j + 1)) = setAt (undoAll ps (u.1.take j)) r.page (fun p => undoP p r) := by
              have : u.1.take (j + 1) = u.1.take j ++ [r] := by rw [List.take_add_one, hr]; rfl
              rw [this, undoAll_snoc]
            have hul2 : (undoAll ps (u.1.take j)).length = s.pages.length := by rw [undoAll_length, hpl]
            have HST := setUndo_calls (w := wx.alloc (.cells #[.int .i64 r.kind, .int .i64 r.txn, .int .i64 r.page, .int .i64 r.off, .int .i64 r.prev, .int .i64 r.next, .int .i64 r.begin_, .string r.before, .string r.after, .slice A3 n3 c3, .slice A4 n4 c4] tRc)) (c := cap2) (n := r.page) (f := fun p => undoP p r) (xb := wx.heap.size) (by have := HH.out.one; omega) (alloc_blk hpx _) hinx (fun p W hW => promote2_calls p ((hW.block _ (by simp)).trans (heap_alloc_new wx _)) (by unfold rcCells; rw [e3, e4]) (by have := hro.aft; omega))
            rw [hul2, ← htk] at HST
            have HSU := Lib.hid HST
            have HQ := Lib.hid hQ
            have HRR := Lib.hid hR
            have b2 : (0 : Int) ≤ (j : Int) := by omega
            have b3 : (j : Int) < (u.1.length : Int) := by omega
            clear HST hpx hinx hQ hR hr e3 e4 hrc htk
            go_wp2_with fail
            go_at_call 94
            refine HSU.out.mono ?_
            rintro e w6 ⟨⟨v6, rfl⟩, hp6, hf6⟩
            go_wp2_with fail
            go_roundg (kx - 1)
            case measure => omega
            case rel =>
              have hbx : Below wx.heap.size wx (wx.alloc (.cells #[.int .i64 r.kind, .int .i64 r.txn, .int .i64 r.page, .int .i64 r.off, .int .i64 r.prev, .int .i64 r.next, .int .i64 r.begin_, .string r.before, .string r.after, .slice A3 n3 c3, .slice A4 n4 c4] tRc)) := (Below.refl _ _).alloc (Nat.le_refl _) _
              have hQ1 := HQ.out.below hbx
              obtain ⟨cq1, hq1, -⟩ := hQ1.pgs
              have hR1 := ownsRow_block HRR.out (fun k hk => hbx.block k (Cut.lt (.inl HRR.out) k hk).2)
              refine ⟨j + 1, by omega, by go_num, hQ1.step hf6 hp6, ownsRow_block hR1 (fun k hk => ?_)⟩
              obtain ⟨cur9, hc9⟩ := own_typeR hR1 hk
              exact hf6.block k (lt_of_block hc9) (type_ne hq1 hc9 (by decide))
          · have hj : u.1.take j = u.1 := List.take_of_length_le (by omega)
            rw [hj] at hQ
            go_wp2_with fail
            go_roundg (ko - 1)
            case measure => omega
            case rel => exact ⟨i + 1, undoAll ps u.1, by omega, by go_num, rfl, rfl, by rw [undoAll_length, hpl], by have := HPR.out; rw [if_pos HCODE.out] at this; exact this, hQ⟩
      · have t9 : (u.2 != 0) = true := by simp [hcode]
        have hpc : promC s = ([], u.2) := by have := HPR.out; rw [if_neg hcode] at this; exact this.symm
        have hbw : Below w.heap.size w w4 := HPP.out.bel.trans (bo4.mono HPP.out.bel.size)
        clear hcode hru
        go_wp2_with fail
        go_ret2
        exact ⟨.slice none 0 0, by rw [hpc]; rfl, by rw [hpc]; exact World.ownsRow_nil _ _ _ _, hbw⟩
    · have hi2 : i = (ordS s).length := by omega
      subst hi2
      rw [List.drop_of_length_le (Nat.le_refl _)] at hpr
      have hpc : promC s = (ps, 0) := hpr.symm
      obtain ⟨cs9, hp9, hin9⟩ := hP.pgs
      have h89 : ps.length ≤ 8 := by have := HH.out.one; omega
      have HD := Lib.hid (data_calls (w := wo) (c := cap2) h89 hp9 hin9)
      rw [hpl] at HD
      have hbel := hP.bel
      clear hp9 hin9 hP hpr
      go_wp2_with fail
      go_at_call 96
      refine HD.out.mono ?_
      rintro e w9 ⟨v9, rfl, hv9, b9⟩
      go_wp2_with fail
      go_ret2
      exact ⟨v9, by rw [hpc]; rfl, by rw [hpc]; exact own_base hv9 hbel.size, hbel.trans (b9.mono hbel.size)⟩
end Go.Proofs.Ytepkonhgkabkcaa
