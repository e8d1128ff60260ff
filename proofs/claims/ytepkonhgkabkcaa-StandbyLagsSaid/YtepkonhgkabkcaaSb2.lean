/- Package standby: its memory; New, Upto, data, Pages. No condition. -/
import Derived.Test.YtepkonhgkabkcaaSb1
namespace Go.Proofs.Ytepkonhgkabkcaa
open Go.RowKit Go.Maps MapI
set_option linter.unusedVariables false
set_option linter.unusedSimpArgs false

abbrev tSb : Nat := 164
/-! ### plainly -/
structure Sb where
  pages : List Pg
  list : List En
  last : List (Int × Int)
def sbNew (n : Nat) : Sb := ⟨List.replicate n ⟨0, zeros⟩, [], []⟩
def Sb.upto (s : Sb) : Int := match s.list.getLast? with | none => 0 | some x => x.1
/-! ### memory -/
structure SbAt (w : World) (B sb pb mb cap : Nat) (lv : Value) (s : Sb) : Prop where
  hB : B ≤ sb ∧ B ≤ pb ∧ B ≤ mb
  blk : w.heap[sb]? = some (.cells #[.slice (some ⟨pb, 0, none⟩) s.pages.length cap, lv, .map (some mb)] tSb (0, 0))
  pgs : ∃ cs, w.heap[pb]? = some (.cells cs 56 (0, 0)) ∧ PgsIn cs 0 s.pages
  row : w.ownsRow B 32 12 lv s.list.length (enCells s.list)
  map : MapIs Try.prog 3 encN w mb s.last
  one : 1 ≤ s.pages.length ∧ s.pages.length ≤ 8
  ok : ∀ x ∈ s.list, EnOk x
  few : s.list.length ≤ 100000 ∧ s.last.length ≤ 100000
  wfk : ∀ p ∈ s.last, (Lit.int .i64 p.1).wf = true
/-- The blocks of a standby. -/
def SbOwn (sb pb mb : Nat) (lv : Value) (k : Nat) : Prop := k = sb ∨ k = pb ∨ k = mb ∨ lv.ownBlock = some k
theorem SbAt.kept {w w' : World} {B sb pb mb cap : Nat} {lv : Value} {s : Sb} (h : SbAt w B sb pb mb cap lv s) (hk : ∀ k, k < w.heap.size → SbOwn sb pb mb lv k → w'.heap[k]? = w.heap[k]?) : SbAt w' B sb pb mb cap lv s := by
  obtain ⟨cs, hp, hi⟩ := h.pgs
  exact ⟨h.hB, (hk _ (lt_of_block h.blk) (.inl rfl)).trans h.blk, ⟨cs, (hk _ (lt_of_block hp) (.inr (.inl rfl))).trans hp, hi⟩, ownsRow_block h.row (fun k e => hk k (Cut.lt (.inl h.row) k e).2 (.inr (.inr (.inr e)))), h.map.of_block (hk _ h.map.lt (.inr (.inr (.inl rfl)))), h.one, h.ok, h.few, h.wfk⟩
theorem SbAt.below {w w' : World} {B sb pb mb cap : Nat} {lv : Value} {s : Sb} (h : SbAt w B sb pb mb cap lv s) (hb : Below w.heap.size w w') : SbAt w' B sb pb mb cap lv s := h.kept fun k hk _ => hb.block k hk
/-- A standby's blocks alone may turn. -/
structure Frm (S : Nat → Prop) (w w' : World) : Prop where
  os : w'.os = w.os
  tape : w'.tape = w.tape
  output : w'.output = w.output
  size : w.heap.size ≤ w'.heap.size
  block : ∀ k, k < w.heap.size → ¬ S k → w'.heap[k]? = w.heap[k]?
theorem Frm.of_below {S : Nat → Prop} {w w' : World} (h : Below w.heap.size w w') : Frm S w w' := ⟨h.os, h.tape, h.output, h.size, fun k hk _ => h.block k hk⟩
theorem Frm.refl (S : Nat → Prop) (w : World) : Frm S w w := ⟨rfl, rfl, rfl, Nat.le_refl _, fun _ _ _ => rfl⟩
theorem Frm.trans {S S' : Nat → Prop} {w w1 w2 : World} (h : Frm S w w1) (k : Frm S' w1 w2) (hs : ∀ j, j < w.heap.size → S' j → S j) : Frm S w w2 :=
  ⟨k.os.trans h.os, k.tape.trans h.tape, k.output.trans h.output, Nat.le_trans h.size k.size, fun j hj hn => (k.block j (Nat.lt_of_lt_of_le hj h.size) (fun e => hn (hs j hj e))).trans (h.block j hj hn)⟩
theorem Frm.below {S : Nat → Prop} {w w' : World} {B : Nat} (h : Frm S w w') (hB : B ≤ w.heap.size) (hs : ∀ k, S k → B ≤ k) : Below B w w' :=
  ⟨h.os, h.tape, h.output, h.size, fun k hk => h.block k (by omega) (fun e => by have := hs k e; omega)⟩
/-! ### New -/
theorem new_no {n : Int} (h : n < 1 ∨ 8 < n) (w : World) : Calls Try.prog 33 #[.int .i64 n] w fun e w' => e = .returned (.tuple #[.pointer none, .int .i64 1]) ∧ w = w' := by
  rcases (show n < 1 ∨ (1 ≤ n ∧ 8 < n) by omega) with h1 | ⟨h1, h2⟩
  · go_enter Try.func33, Try.ntmps33
    go_wp2_with fail
    go_ret2
    exact ⟨rfl, rfl⟩
  · have t1 : decide (n < 1) = false := decide_eq_false (by omega)
    go_enter Try.func33, Try.ntmps33
    go_wp2_with fail
    go_ret2
    exact ⟨rfl, rfl⟩
set_option maxHeartbeats 2000000 in
set_option maxRecDepth 100000 in
theorem new_yes {n : Nat} (h1 : 1 ≤ n) (h8 : n ≤ 8) (w : World) : Calls Try.prog 33 #[.int .i64 (n : Int)] w fun e w' => ∃ sb pb mb cap, e = .returned (.tuple #[.pointer (some ⟨sb, 0, none⟩), .int .i64 0]) ∧ SbAt w' w.heap.size sb pb mb cap (.slice none 0 0) (sbNew n) ∧ Below w.heap.size w w' := by
  have t1 : decide ((n : Int) < 1) = false := decide_eq_false (by omega)
  have t2 : decide (8 < (n : Int)) = false := decide_eq_false (by omega)
  have hmm := @run_makeMap Try.prog
  go_enter Try.func33, Try.ntmps33
  go_wp2_with (first
    | (go_at_call 86; refine (empty_calls _).mono ?_; rintro e w1 ⟨rfl, b1⟩; obtain ⟨m0, m1, n0, n1⟩ := page_blk (heap_alloc_new w1 (.cells #[.int .i64 0, .string zeros] 56)))
    | (go_at_call 85; refine (repeat_calls (p := ⟨0, zeros⟩) h1 h8 m0 m1).mono ?_; rintro e w2 ⟨rfl, hp2, b2⟩))
  go_ret2
  have z1 := b1.size
  have z2 := b2.size
  rw [World.size_alloc] at z2 hp2
  have hb2 : Below w.heap.size w w2 := (b1.alloc z1 _).trans (b2.mono (by simp; omega))
  have hz := lt_of_block hp2
  have q1 : ((w2.alloc (.map #[] 0)).alloc (.cells #[.slice (some ⟨w1.heap.size + 1, 0, none⟩) n n, .slice none 0 0, .map (some w2.heap.size)] tSb)).heap[w1.heap.size + 1]? = some (.cells (pgCells (List.replicate n (⟨0, zeros⟩ : Pg))).toArray 56 (0, 0)) := alloc_blk (alloc_blk hp2 _) _
  refine ⟨w2.heap.size + 1, w1.heap.size + 1, w2.heap.size, n, rfl, ⟨⟨by omega, by omega, by omega⟩, ?_, ⟨_, q1, ?_⟩, World.ownsRow_nil _ _ _ _, ?_, by simp [sbNew]; omega, by simp [sbNew], by simp [sbNew], by simp [sbNew]⟩, (hb2.alloc (by omega) _).alloc (by simp; omega) _⟩
  · have := blk_new1 w2 (.map #[] 0) (.cells #[.slice (some ⟨w1.heap.size + 1, 0, none⟩) n n, .slice none 0 0, .map (some w2.heap.size)] tSb)
    simpa [sbNew] using this
  · exact fun i p hp => by have := pgCells_get hp; simpa [sbNew] using this
  · exact (MapIs.made w2 Try.prog 3 encN).kept (World.grownBy_alloc _ _ none) (by simp)
/-! ### Upto -/
theorem upto_nil (w : World) : Calls Try.prog 38 #[.pointer none] w fun e w' => e = .returned (.int .i64 0) ∧ w = w' := by
  go_enter Try.func38, Try.ntmps38
  go_wp2_with fail
  go_ret
  exact ⟨rfl, rfl⟩
set_option maxHeartbeats 2000000 in
set_option maxRecDepth 100000 in
theorem upto_calls {w : World} {B sb pb mb cap : Nat} {lv : Value} {s : Sb} (h : SbAt w B sb pb mb cap lv s) : Calls Try.prog 38 #[.pointer (some ⟨sb, 0, none⟩)] w fun e w' => e = .returned (.int .i64 s.upto) ∧ ∃ q, w' = w.drewN q := by
  have c1 : w.cell? ⟨sb, 1, none⟩ = some lv := cell_of_block h.blk 1
  obtain ⟨A, c, rfl, hc, -⟩ := Cut.form (.inl h.row)
  have hfew := h.few.1
  by_cases hz : s.list.length = 0
  · have hnil : s.list = [] := List.eq_nil_of_length_eq_zero hz
    have hu : s.upto = 0 := by unfold Sb.upto; rw [hnil]; rfl
    rw [hu]
    rw [hz] at c1
    clear hu hnil h hc hz hfew
    go_enter Try.func38, Try.ntmps38
    go_wp2_with fail
    go_ret
    exact ⟨rfl, 0, rfl⟩
  · obtain ⟨g, cp, hA, -, -⟩ := Cut.formS (.inl h.row) (by omega)
    injection hA with hA _ _
    subst hA
    obtain ⟨x, hx⟩ : ∃ x, s.list[s.list.length - 1]? = some x := ⟨_, List.getElem?_eq_getElem (by omega)⟩
    have hu : s.upto = x.1 := by unfold Sb.upto; rw [List.getLast?_eq_getElem?, hx]
    rw [hu]
    have d0 : w.cell? ⟨g, (s.list.length - 1) * 12, none⟩ = some (.int .i64 x.1) := Cut.cells (.inl h.row) (g := g) rfl _ _ (enCells_get hx 0 _ rfl)
    obtain ⟨n, hn⟩ : ∃ n, n = s.list.length := ⟨_, rfl⟩
    rw [← hn] at c1 d0 hz hfew
    have t1 : ((n : Int) == 0) = false := by simp; omega
    have s0 : 0 < n := by omega
    have s1 : IntKind.i64.wrap ((n : Int) - 1) = (n : Int) - 1 := IntWalk.i64_in _ (by omega)
    have s2 : (0 : Int) ≤ (n : Int) - 1 := by omega
    have s3 : (n : Int) - 1 < (n : Int) := by omega
    have s4 : ((n : Int) - 1).toNat = n - 1 := by omega
    have s5 : (1 : Int) ≤ (n : Int) := by omega
    clear hu hx h hn hz hc
    go_enter Try.func38, Try.ntmps38
    go_wp2_with fail
    go_quiet (fail)
    go_wp2_with fail
    go_ret
    exact ⟨rfl, _, rfl⟩
/-! ### data, Pages -/
def strCells (ps : List Pg) : List Value := ps.map fun p => .string p.data
def DataPost (w : World) (ps : List Pg) (e : Ending) (w' : World) : Prop := ∃ v, e = .returned v ∧ w'.ownsRow w.heap.size 9 1 v ps.length (strCells ps) ∧ Below w.heap.size w w'
set_option maxHeartbeats 2000000 in
set_option maxRecDepth 100000 in
theorem data_calls {w : World} {g c : Nat} {ps : List Pg} (h8 : ps.length ≤ 8) {cs : Array Value} (hg : w.heap[g]? = some (.cells cs 56 (0, 0))) (hin : PgsIn cs 0 ps) :
    Calls Try.prog 96 #[.slice (some ⟨g, 0, none⟩) ps.length c] w (DataPost w ps) := by
  obtain ⟨i0, hi, hz0, hz1, hz2⟩ := info_parts infoStr
  go_enter Try.func96, Try.ntmps96
  go_wp2_with fail
  go_loopg [7, 2] ps.length (fun k iv rv wr => ∃ i : Nat, i + k = ps.length ∧ iv = .int .i64 i ∧ wr.ownsRow w.heap.size 9 1 rv i (strCells (ps.take i)) ∧ Below w.heap.size w wr)
  case atStart => exact ⟨0, by omega, rfl, World.ownsRow_nil _ _ _ _, Below.refl _ _⟩
  case round =>
    obtain ⟨wo, rfl⟩ : ∃ wo : World, wo = wr := ⟨_, rfl⟩
    obtain ⟨ko, rfl⟩ : ∃ ko : Nat, ko = gk := ⟨_, rfl⟩
    obtain ⟨i, hik, rfl, hrv, hbo⟩ := hrel
    by_cases hlt : i < ps.length
    · obtain ⟨p, hp⟩ : ∃ p, ps[i]? = some p := ⟨_, List.getElem?_eq_getElem hlt⟩
      have hgo := (hbo.block _ (lt_of_block hg)).trans hg
      obtain ⟨p1, p2⟩ := hin i p hp
      rw [Nat.zero_add] at p1 p2
      have c0 : wo.cell? ⟨g, i * 2, none⟩ = some (.int .i64 p.place) := (cell_of_block hgo _).trans p1
      have c1 : wo.cell? ⟨g, i * 2 + 1, none⟩ = some (.string p.data) := (cell_of_block hgo _).trans p2
      have b2 : (0 : Int) ≤ (i : Int) := by omega
      have b3 : (i : Int) < (ps.length : Int) := by omega
      have hz := hbo.size
      have htk : strCells (ps.take (i + 1)) = strCells (ps.take i) ++ [.string p.data] := by rw [List.take_add_one, hp]; simp [strCells]
      have HT := Lib.hid htk
      clear htk hp p1 p2
      go_wp2_with (at_builtin; refine wpList_append_lies _ rfl (.tmp 11) (.tmp 14) 66 rfl w.heap.size 9 i0 (.string ⟨#[]⟩) 1 16 Try.underlying66 hi hz0 hz1 hz2 rfl (by decide) _ _ _ rfl ((hrv.alloc _).alloc _) ⟨wo.heap.size + 1, 0, none⟩ 1 1 [.string p.data] rfl rfl (World.news_of_block (by rw [← World.size_alloc wo (.cells #[.int .i64 p.place, .string p.data] 56)]; exact heap_alloc_new _ _)) (by simp [Value.oneCell']) (by decide) (by unfold maxLen; omega) (by omega) (by simp; omega) _ rfl ?_; intro g2 cap2 w5 hown2 hg2 hat2 hlt3)
      go_roundg (ko - 1)
      case measure => omega
      case rel => exact ⟨i + 1, by omega, by go_num, by rw [HT.out]; exact hown2, ((hbo.alloc hz _).alloc (by simp; omega) _).grown hg2 (by simp; omega) (fun k hk => (hrv.lt k hk).1)⟩
    · obtain rfl : i = ps.length := by omega
      rw [List.take_of_length_le (Nat.le_refl _)] at hrv
      go_wp2_with fail
      go_ret
      exact ⟨_, rfl, hrv, hbo⟩
theorem pages_nil (w : World) : Calls Try.prog 46 #[.pointer none] w fun e w' => e = .returned (.slice none 0 0) ∧ w = w' := by
  go_enter Try.func46, Try.ntmps46
  go_wp2_with fail
  go_ret
  exact ⟨rfl, rfl⟩
theorem pages_calls {w : World} {B sb pb mb cap : Nat} {lv : Value} {s : Sb} (h : SbAt w B sb pb mb cap lv s) : Calls Try.prog 46 #[.pointer (some ⟨sb, 0, none⟩)] w (DataPost w s.pages) := by
  have c0 : w.cell? ⟨sb, 0, none⟩ = some (.slice (some ⟨pb, 0, none⟩) s.pages.length cap) := cell_of_block h.blk 0
  obtain ⟨cs, hp, hin⟩ := h.pgs
  have HC := Lib.hid (data_calls (c := cap) h.one.2 hp hin)
  clear hp hin h
  go_enter Try.func46, Try.ntmps46
  go_wp2_with (go_at_call 96; refine HC.out.mono ?_; rintro e w1 ⟨v, rfl, hv, b1⟩)
  go_ret
  exact ⟨v, rfl, hv, b1⟩
end Go.Proofs.Ytepkonhgkabkcaa
