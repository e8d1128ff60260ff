/- Package standby: take. No condition. -/
import Derived.Test.YtepkonhgkabkcaaSb3
namespace Go.Proofs.Ytepkonhgkabkcaa
open Go.RowKit Go.Maps MapI
set_option linter.unusedVariables false
set_option linter.unusedSimpArgs false

def lastSb (l : List (Int × Int)) (x : En) : List (Int × Int) := if x.2.kind = 1 ∨ x.2.kind = 2 then MapI.put x.2.txn x.1 l else if x.2.kind = 3 ∨ x.2.kind = 4 then MapI.del x.2.txn l else l
def takeSb (s : Sb) (x : En) : Sb := ⟨setAt s.pages x.2.page (fun p => applyP p x.1 x.2), s.list ++ [x], lastSb s.last x⟩
theorem enCells_snoc (l : List En) (x : En) : enCells (l ++ [x]) = enCells l ++ (.int .i64 x.1 :: rcCells x.2) := by simp [enCells]
def TakePost (w : World) (B sb pb mb cap : Nat) (lv : Value) (s : Sb) (e : Ending) (w' : World) : Prop :=
  (∃ v, e = .returned v) ∧ ∃ lv', SbAt w' B sb pb mb cap lv' s ∧ Frm (SbOwn sb pb mb lv) w w' ∧ (∀ k, lv'.ownBlock = some k → lv.ownBlock = some k ∨ w.heap.size ≤ k)
theorem lastSb_len (l : List (Int × Int)) (x : En) : (lastSb l x).length ≤ l.length + 1 := by
  unfold lastSb
  split
  · exact length_put_le
  · split
    · exact Nat.le_succ_of_le length_del_le
    · exact Nat.le_succ _
theorem lastSb_wf {l : List (Int × Int)} {x : En} (h : ∀ p ∈ l, (Lit.int .i64 p.1).wf = true) (hx : (Lit.int .i64 x.2.txn).wf = true) : ∀ p ∈ lastSb l x, (Lit.int .i64 p.1).wf = true := by
  unfold lastSb
  split
  · intro p hp
    rcases mem_put.1 hp with rfl | ⟨hp, _⟩
    · exact hx
    · exact h p hp
  · split
    · exact fun p hp => h p (mem_del.1 hp).1
    · exact h
/-- Behind the append and the pages: what stands, but for the map. -/
structure Mid (w w5 : World) (B sb pb mb cap : Nat) (lv lv' : Value) (s : Sb) (x : En) : Prop where
  blk : w5.heap[sb]? = some (.cells #[.slice (some ⟨pb, 0, none⟩) s.pages.length cap, lv', .map (some mb)] tSb (0, 0))
  pgs : ∃ cs, w5.heap[pb]? = some (.cells cs 56 (0, 0)) ∧ PgsIn cs 0 (setAt s.pages x.2.page (fun p => applyP p x.1 x.2))
  row : w5.ownsRow B 32 12 lv' (s.list.length + 1) (enCells s.list ++ (.int .i64 x.1 :: rcCells x.2))
  map : MapIs Try.prog 3 encN w5 mb s.last
  frm : Frm (SbOwn sb pb mb lv) w w5
  new_ : ∀ k, lv'.ownBlock = some k → lv.ownBlock = some k ∨ w.heap.size ≤ k
theorem Mid.fin {w w5 w6 : World} {B sb pb mb cap : Nat} {lv lv' : Value} {s : Sb} {x : En} (h0 : SbAt w B sb pb mb cap lv s) (hx : EnOk x) (h : Mid w w5 B sb pb mb cap lv lv' s x) (hlt : s.list.length < 100000 ∧ s.last.length < 100000)
    (hg : w5.grownBy w6 (some mb)) (hm : MapIs Try.prog 3 encN w6 mb (lastSb s.last x)) : ∃ lv', SbAt w6 B sb pb mb cap lv' (takeSb s x) ∧ Frm (SbOwn sb pb mb lv) w w6 ∧ (∀ k, lv'.ownBlock = some k → lv.ownBlock = some k ∨ w.heap.size ≤ k) := by
  obtain ⟨cs, hp, hin⟩ := h.pgs
  obtain ⟨es, cl, hmh⟩ := h.map.heap
  have keep : ∀ (k : Nat) (c : Array Value) (t : Nat), w5.heap[k]? = some (.cells c t (0, 0)) → w6.heap[k]? = some (.cells c t (0, 0)) := fun k c t hk => (hg.block k (lt_of_block hk) (fun e => by injection e with e; subst e; rw [hmh] at hk; cases hk)).trans hk
  refine ⟨lv', ⟨h0.hB, ?_, ⟨cs, keep _ _ _ hp, hin⟩, ?_, hm, ?_, ?_, ?_, lastSb_wf h0.wfk hx.rec_.wf⟩, h.frm.trans ⟨hg.os, hg.tape, hg.output, hg.size, fun k hk hn => hg.block k hk (fun e => hn (show SbOwn sb pb mb lv k from .inr (.inr (.inl (by injection e)))))⟩ (fun _ _ h => h), h.new_⟩
  · have := keep _ _ _ h.blk
    unfold takeSb
    dsimp only
    rw [setAt_length]; exact this
  · have h1 := ownsRow_block h.row (fun k hk => by obtain ⟨cur, hc⟩ := own_typeR h.row hk; exact (keep _ _ _ hc).trans hc.symm)
    show w6.ownsRow B _ 12 lv' (s.list ++ [x]).length (enCells (s.list ++ [x]))
    rw [enCells_snoc]; simpa using h1
  · show 1 ≤ (setAt s.pages x.2.page _).length ∧ (setAt s.pages x.2.page _).length ≤ 8
    rw [setAt_length]; exact h0.one
  · intro y hy
    rcases List.mem_append.1 hy with hy | hy
    · exact h0.ok y hy
    · rw [List.mem_singleton.1 hy]; exact hx
  · refine ⟨by show (s.list ++ [x]).length ≤ 100000; simp; omega, ?_⟩
    have := lastSb_len s.last x
    show (lastSb s.last x).length ≤ 100000
    omega
set_option maxHeartbeats 4000000 in
set_option maxRecDepth 100000 in
theorem take_calls {w : World} {B sb pb mb cap : Nat} {lv : Value} {s : Sb} {x : En} (h : SbAt w B sb pb mb cap lv s) (hB : B ≤ w.heap.size) (hx : EnOk x) (hlt : s.list.length < 100000 ∧ s.last.length < 100000) {A1 A2 : Option Addr} {n1 c1 n2 c2 : Nat} (e1 : x.2.txns = .slice A1 n1 c1) (e2 : x.2.pages = .slice A2 n2 c2) :
    Calls Try.prog 87 #[.pointer (some ⟨sb, 0, none⟩), .agg #[.int .i64 x.1, .int .i64 x.2.kind, .int .i64 x.2.txn, .int .i64 x.2.page, .int .i64 x.2.off, .int .i64 x.2.prev, .int .i64 x.2.next, .int .i64 x.2.begin_, .string x.2.before, .string x.2.after, .slice A1 n1 c1, .slice A2 n2 c2]] w (TakePost w B sb pb mb cap lv (takeSb s x)) := by
  obtain ⟨i0, hi, hz0, hz1, hz2⟩ := info_parts infoEn
  have c0 : w.cell? ⟨sb, 0, none⟩ = some (.slice (some ⟨pb, 0, none⟩) s.pages.length cap) := cell_of_block h.blk 0
  have cl1 : w.cell? ⟨sb, 1, none⟩ = some lv := cell_of_block h.blk 1
  have c2' : w.cell? ⟨sb, 2, none⟩ = some (.map (some mb)) := cell_of_block h.blk 2
  obtain ⟨Al, cl, hlv, hcl, -⟩ := Cut.form (.inl h.row)
  have hsb := lt_of_block h.blk
  obtain ⟨X, hX⟩ : ∃ X, X = Obj.cells #[.int .i64 x.1, .int .i64 x.2.kind, .int .i64 x.2.txn, .int .i64 x.2.page, .int .i64 x.2.off, .int .i64 x.2.prev, .int .i64 x.2.next, .int .i64 x.2.begin_, .string x.2.before, .string x.2.after, .slice A1 n1 c1, .slice A2 n2 c2] 32 := ⟨_, rfl⟩
  have hrow1 : ((w.alloc X).alloc X).drew.ownsRow B 32 12 lv s.list.length (enCells s.list) := (h.row.alloc X).alloc X
  have hnews : ∀ j u, (Value.int .i64 x.1 :: rcCells x.2)[j]? = some u → ((w.alloc X).alloc X).drew.cell? ((⟨w.heap.size + 1, 0, none⟩ : Addr).add j) = some u := by
    have hb := blk_new1 w X X
    rw [hX] at hb
    have := World.news_of_block hb
    rw [hX]
    unfold rcCells
    rw [e1, e2]
    exact this
  obtain ⟨g, cp, w4, hrun, hown4, hg4, hat4, hlt4⟩ := run_append_lies (P := Try.prog) ((w.alloc X).alloc X).drew 22 22 B 32 i0 zeroEn 12 144 Try.underlying22 hi hz0 hz1 hz2 rfl (by decide) lv s.list.length (enCells s.list) hrow1 ⟨w.heap.size + 1, 0, none⟩ 1 1 (.int .i64 x.1 :: rcCells x.2) (by simp [rcCells]) hnews (by unfold rcCells; rw [e1, e2]; simp [Value.oneCell']) (by decide) (by unfold maxLen; omega) (by omega)
    (by show B ≤ ((w.alloc X).alloc X).heap.size; simp; omega) (w.heap.size + 1 + 1) (by show ((w.alloc X).alloc X).heap.size = _; simp)
  have hsz4 : w.heap.size + 1 + 1 ≤ w4.heap.size := by have := hg4.size; have e : ((w.alloc X).alloc X).drew.heap.size = w.heap.size + 1 + 1 := (by show ((w.alloc X).alloc X).heap.size = _; simp); omega
  have hold4 : ∀ k, k < w.heap.size → lv.ownBlock ≠ some k → w4.heap[k]? = w.heap[k]? := fun k hk hne => (hg4.block k (by show k < ((w.alloc X).alloc X).heap.size; simp; omega) (fun e => hne e.symm)).trans ((Below.heap_alloc _ _ _ (by simp; omega)).trans (Below.heap_alloc _ _ _ hk))
  have hnl : ∀ k, (∀ c, w.heap[k]? ≠ some (.cells c 32 (0, 0))) → lv.ownBlock ≠ some k := fun k hk e => by obtain ⟨cur, hc⟩ := own_typeR h.row e; exact hk _ hc
  have hblk4 := (hold4 sb hsb (hnl sb (by rw [h.blk]; intro c e; injection e with e; injection e with _ e; exact absurd e (by decide)))).trans h.blk
  have f41 : w4.frozen? ⟨sb, 1, none⟩ = false := frozen_of_block hblk4 1
  have c41 : w4.cell? ⟨sb, 1, none⟩ = some lv := cell_of_block hblk4 1
  have hx4 : w4.heap[w.heap.size]? = some X := (hg4.block w.heap.size (by show _ < ((w.alloc X).alloc X).heap.size; simp; omega) (fun e => by have := (Cut.lt (.inl h.row) _ e.symm).2; omega)).trans (blk_new0 w X X)
  rw [hlv] at hrun cl1 c41
  have hXX := hX
  rw [hX] at hrun
  have HX := Lib.hid hXX
  have HH := Lib.hid h
  have HO4 := Lib.hid hold4
  have HN := Lib.hid hnl
  have HOW := Lib.hid hown4
  have HG4 := Lib.hid hg4
  have HAT := Lib.hid hat4
  have HB4 := Lib.hid hblk4
  have HX4 := Lib.hid hx4
  have HLV := Lib.hid hlv
  clear hX hXX hrow1 hnews h hold4 hnl hown4 hg4 hat4 hblk4 hx4 hlv hcl
  go_enter Try.func87, Try.ntmps87
  go_wp2_with fail
  go_cut [11] from 4 to 13 (fun t wx => wx = w4.setCell ⟨sb, 1, none⟩ (.slice (some ⟨g, 0, none⟩) (s.list.length + 1) cp))
  case first =>
    go_region_law (refine step_append_run rfl (.tmp 8) (.tmp 10) 22 rfl _ _ rfl rfl hrun ?_)
    all_goals
      go_wp2_with fail
      go_meet
      rfl
  case rest =>
    obtain ⟨W5, hW5⟩ : ∃ W5, W5 = w4.setCell ⟨sb, 1, none⟩ (.slice (some ⟨g, 0, none⟩) (s.list.length + 1) cp) := ⟨_, rfl⟩
    rw [← hW5] at hcut
    rw [hcut]
    clear hcut
    have hk5 : ∀ k, k ≠ sb → W5.heap[k]? = w4.heap[k]? := fun k hk => by rw [hW5]; exact Below.heap_setCell _ _ _ _ hk
    have hs5 : W5.heap.size = w4.heap.size := by rw [hW5]; simp [World.setCell]
    have ho5 : W5.os = w4.os ∧ W5.tape = w4.tape ∧ W5.output = w4.output := by rw [hW5]; exact ⟨rfl, rfl, rfl⟩
    have hb5 : W5.heap[sb]? = some (.cells #[.slice (some ⟨pb, 0, none⟩) s.pages.length cap, .slice (some ⟨g, 0, none⟩) (s.list.length + 1) cp, .map (some mb)] tSb (0, 0)) := by rw [hW5]; exact setCell_block _ _ _ _ HB4.out
    clear hW5
    have hs := HH.out
    obtain ⟨cs0, hp0, hin0⟩ := hs.pgs
    have hp5 := (hk5 pb (type_ne hp0 hs.blk (by decide)).symm).trans ((HO4.out pb (lt_of_block hp0) (HN.out pb (by rw [hp0]; intro c e; injection e with e; injection e with _ e; exact absurd e (by decide)))).trans hp0)
    obtain ⟨es0, cl0, hm0⟩ := hs.map.heap
    have hm5 : MapIs Try.prog 3 encN W5 mb s.last := hs.map.of_block ((hk5 mb (map_ne hm0 hs.blk).symm).trans (HO4.out mb hs.map.lt (HN.out mb (by rw [hm0]; intro c e; cases e))))
    have hx5 : W5.heap[w.heap.size]? = some X := (hk5 _ (by omega)).trans HX4.out
    have hg9 := (Cut.lt (.inl HOW.out) g rfl).2
    have hown5 : W5.ownsRow B 32 12 (.slice (some ⟨g, 0, none⟩) (s.list.length + 1) cp) (s.list.length + 1) (enCells s.list ++ (.int .i64 x.1 :: rcCells x.2)) := ownsRow_block HOW.out (fun k hk => hk5 k (by
      intro e; subst e
      obtain ⟨cur, hc⟩ := own_typeR HOW.out hk
      exact type_ne hc HB4.out (by decide) rfl))
    have hfr5 : Frm (SbOwn sb pb mb lv) w W5 := ⟨ho5.1.trans HG4.out.os, ho5.2.1.trans HG4.out.tape, ho5.2.2.trans HG4.out.output, by omega, fun k hk hn => (hk5 k (fun e => hn (.inl e))).trans (HO4.out k hk (fun e => hn (.inr (.inr (.inr e)))))⟩
    have hnew5 : ∀ k, (Value.slice (some ⟨g, 0, none⟩) (s.list.length + 1) cp).ownBlock = some k → lv.ownBlock = some k ∨ w.heap.size ≤ k := fun k hk => by
      obtain rfl : g = k := by simpa [Value.ownBlock] using hk
      rcases HAT.out with h1 | h1
      · exact .inl h1
      · exact .inr (by omega)
    have c50 : W5.cell? ⟨sb, 0, none⟩ = some (.slice (some ⟨pb, 0, none⟩) s.pages.length cap) := cell_of_block hb5 0
    have hxl : W5.heap[w.heap.size]? = some (.cells #[.int .i64 x.1, .int .i64 x.2.kind, .int .i64 x.2.txn, .int .i64 x.2.page, .int .i64 x.2.off, .int .i64 x.2.prev, .int .i64 x.2.next, .int .i64 x.2.begin_, .string x.2.before, .string x.2.after, .slice A1 n1 c1, .slice A2 n2 c2] 32 (0, 0)) := by rw [hx5, HX.out]
    have x53 : W5.cell? ⟨w.heap.size, 3, none⟩ = some (.int .i64 x.2.page) := cell_of_block hxl 3
    have hC := setTake_calls (w := W5.drew) (c := cap) (n := x.2.page) (f := fun p => applyP p x.1 x.2) hs.one.2 hp5 hin0 (fun p W hW => take1_calls p ((hW.block _ (lt_of_block hxl)).trans hxl) (by unfold rcCells; rw [e1, e2]) hx.rec_)
    have HC := Lib.hid hC
    have HB5 := Lib.hid hb5
    have HP5 := Lib.hid hp5
    have HM5 := Lib.hid hm5
    have HXL := Lib.hid hxl
    have HOW5 := Lib.hid hown5
    have HF5 := Lib.hid hfr5
    have HN5 := Lib.hid hnew5
    clear hk5 hs5 ho5 hb5 hs hp0 hin0 hp5 hm0 hm5 hx5 hown5 hfr5 hnew5 hxl hC hrun HO4 HN HOW HG4 HAT HB4 HX4 f41 c41 cl1 c0 c2' hsz4 hlt4
    go_wp2_with fail
    go_still_tail 8, (by kernel_rfl)
    change wpList _ _ _ _ _ W5.drew
    go_wp2_with fail
    go_at_call 94
    refine HC.out.mono ?_
    rintro e w6 ⟨⟨v6, rfl⟩, hp6, hf6⟩
    have hs := HH.out
    obtain ⟨cs0, hp0, -⟩ := hs.pgs
    obtain ⟨es0, cl0, hm0⟩ := HM5.out.heap
    have hw6 : ∀ (k : Nat) (o : Obj), W5.heap[k]? = some o → k ≠ pb → w6.heap[k]? = some o := fun k o ho hk => (hf6.block k (Array.getElem?_eq_some_iff.1 ho).1 hk).trans ho
    have hxp : w.heap.size ≠ pb := by have := lt_of_block hp0; omega
    have hb6 := hw6 sb _ HB5.out (type_ne HP5.out HB5.out (by decide))
    have hx6 := hw6 _ _ HXL.out hxp
    have hm6 : MapIs Try.prog 3 encN w6 mb s.last := HM5.out.of_block ((hw6 mb _ hm0 (map_ne hm0 HP5.out).symm).trans hm0.symm)
    have hown6 := ownsRow_block HOW5.out (w' := w6) (fun k hk => by
      obtain ⟨cur, hc⟩ := own_typeR HOW5.out hk
      exact (hw6 k _ hc (type_ne HP5.out hc (by decide))).trans hc.symm)
    have hmid : Mid w w6 B sb pb mb cap lv (.slice (some ⟨g, 0, none⟩) (s.list.length + 1) cp) s x :=
      ⟨hb6, hp6, hown6, hm6, HF5.out.trans ⟨hf6.os, hf6.tape, hf6.output, hf6.size, hf6.block⟩ (S' := fun k => k = pb) (fun k _ h => .inr (.inl h)), HN5.out⟩
    have x60 : w6.cell? ⟨w.heap.size, 0, none⟩ = some (.int .i64 x.1) := cell_of_block hx6 0
    have x61 : w6.cell? ⟨w.heap.size, 1, none⟩ = some (.int .i64 x.2.kind) := cell_of_block hx6 1
    have x62 : w6.cell? ⟨w.heap.size, 2, none⟩ = some (.int .i64 x.2.txn) := cell_of_block hx6 2
    have m62 : w6.cell? ⟨sb, 2, none⟩ = some (.map (some mb)) := cell_of_block hb6 2
    obtain ⟨ws, hru, hms, hts⟩ := (hm6.of_block (w' := w6.drew) rfl).run_store (P := Try.prog) Try.underlying3 (t := 26) uBeg (by unfold maxLen; omega) hx.rec_.wf x.1
    obtain ⟨wd, hrd, hmd, htd⟩ := (hm6.of_block (w' := w6.drew) rfl).run_strike (P := Try.prog) Try.underlying3 (t := 26) uBeg hx.rec_.wf 0
    have hgu : w6.grownBy ws (some mb) := ⟨hts.grown.os, hts.grown.tape, hts.grown.output, hts.grown.size, hts.grown.block⟩
    have hgd : w6.grownBy wd (some mb) := ⟨htd.grown.os, htd.grown.tape, htd.grown.output, htd.grown.size, htd.grown.block⟩
    have hru' : (Instr.mapUpdate 26 (.map (some mb)) (.int .i64 x.2.txn) (.int .i64 x.1)).run Try.prog w6.drew = .ok () ws := hru
    clear hru
    have hru := hru'
    clear hru'
    have HMID := Lib.hid hmid
    have HMS := Lib.hid hms
    have HMD := Lib.hid hmd
    have HM6 := Lib.hid hm6
    have HGU := Lib.hid hgu
    have HGD := Lib.hid hgd
    clear hmid hms hmd hm6 hgu hgd hts htd hown6 hx6 hb6 hw6 hm0 hp0 hp6 hf6 hs
    by_cases k1 : x.2.kind = 1
    · have hl : lastSb s.last x = MapI.put x.2.txn x.1 s.last := by unfold lastSb; rw [if_pos (.inl k1)]
      have t1 : (x.2.kind == 1) = true := by simp [k1]
      have HLL := Lib.hid hl
      clear k1 hl hrd
      go_wp2_with fail
      go_region_law (refine MapI.step_update_run rfl (.tmp 32) (.tmp 35) (.tmp 37) 26 rfl rfl rfl rfl hru ?_)
      all_goals
        go_wp2_with fail
        refine bodyPost_end (results_none rfl _ _ _) rfl ?_
        exact ⟨⟨_, rfl⟩, Mid.fin HH.out hx HMID.out hlt HGU.out (by rw [HLL.out]; exact HMS.out)⟩
    · have t1 : (x.2.kind == 1) = false := by simpa using k1
      by_cases k2 : x.2.kind = 2
      · have hl : lastSb s.last x = MapI.put x.2.txn x.1 s.last := by unfold lastSb; rw [if_pos (.inr k2)]
        have t2 : (x.2.kind == 2) = true := by simp [k2]
        have HLL := Lib.hid hl
        clear k1 k2 hl hrd
        go_wp2_with fail
        go_region_law (refine MapI.step_update_run rfl (.tmp 32) (.tmp 35) (.tmp 37) 26 rfl rfl rfl rfl hru ?_)
        all_goals
          go_wp2_with fail
          refine bodyPost_end (results_none rfl _ _ _) rfl ?_
          exact ⟨⟨_, rfl⟩, Mid.fin HH.out hx HMID.out hlt HGU.out (by rw [HLL.out]; exact HMS.out)⟩
      · have t2 : (x.2.kind == 2) = false := by simpa using k2
        by_cases k3 : x.2.kind = 3
        · have hl : lastSb s.last x = MapI.del x.2.txn s.last := by unfold lastSb; rw [if_neg (by omega), if_pos (.inl k3)]
          have t3 : (x.2.kind == 3) = true := by simp [k3]
          have HLL := Lib.hid hl
          clear k1 k2 k3 hl hru
          go_wp2_with fail
          go_region_law (refine MapI.step_delete_run rfl (.tmp 44) (.tmp 47) 26 3 rfl rfl rfl hrd ?_)
          all_goals
            go_wp2_with fail
            refine bodyPost_end (results_none rfl _ _ _) rfl ?_
            exact ⟨⟨_, rfl⟩, Mid.fin HH.out hx HMID.out hlt HGD.out (by rw [HLL.out]; exact HMD.out)⟩
        · have t3 : (x.2.kind == 3) = false := by simpa using k3
          by_cases k4 : x.2.kind = 4
          · have hl : lastSb s.last x = MapI.del x.2.txn s.last := by unfold lastSb; rw [if_neg (by omega), if_pos (.inr k4)]
            have t4 : (x.2.kind == 4) = true := by simp [k4]
            have HLL := Lib.hid hl
            clear k1 k2 k3 k4 hl hru
            go_wp2_with fail
            go_region_law (refine MapI.step_delete_run rfl (.tmp 44) (.tmp 47) 26 3 rfl rfl rfl hrd ?_)
            all_goals
              go_wp2_with fail
              refine bodyPost_end (results_none rfl _ _ _) rfl ?_
              exact ⟨⟨_, rfl⟩, Mid.fin HH.out hx HMID.out hlt HGD.out (by rw [HLL.out]; exact HMD.out)⟩
          · have t4 : (x.2.kind == 4) = false := by simpa using k4
            have hl : lastSb s.last x = s.last := by unfold lastSb; rw [if_neg (by omega), if_neg (by omega)]
            have HLL := Lib.hid hl
            clear k1 k2 k3 k4 hl hru hrd
            go_wp2_with fail
            refine bodyPost_end (results_none rfl _ _ _) rfl ?_
            exact ⟨⟨_, rfl⟩, Mid.fin HH.out hx HMID.out hlt ⟨rfl, rfl, rfl, Nat.le_refl _, fun _ _ _ => rfl⟩ (by rw [HLL.out]; exact HM6.out)⟩
end Go.Proofs.Ytepkonhgkabkcaa
