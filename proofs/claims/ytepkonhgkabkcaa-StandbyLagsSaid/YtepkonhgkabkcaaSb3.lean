/- Package standby: set and take. No condition. -/
import Derived.Test.YtepkonhgkabkcaaSb2
namespace Go.Proofs.Ytepkonhgkabkcaa
open Go.RowKit Go.Maps MapI
set_option linter.unusedVariables false
set_option linter.unusedSimpArgs false

theorem pgsIn_set {cs : Array Value} {ps : List Pg} (h : PgsIn cs 0 ps) {i : Nat} (hi : i < ps.length) (q : Pg) : PgsIn ((cs.setIfInBounds (i * 2) (.int .i64 q.place)).setIfInBounds (i * 2 + 1) (.string q.data)) 0 (ps.set i q) := by
  intro j p hp
  obtain ⟨r, hr⟩ : ∃ r, ps[i]? = some r := ⟨_, List.getElem?_eq_getElem hi⟩
  obtain ⟨h1, h2⟩ := h _ _ hr
  rw [Nat.zero_add] at h1 h2
  have s1 := (Array.getElem?_eq_some_iff.1 h1).1
  have s2 := (Array.getElem?_eq_some_iff.1 h2).1
  rw [Nat.zero_add]
  by_cases e : j = i
  · subst e
    rw [List.getElem?_set_self hi] at hp
    injection hp with hp
    subst hp
    constructor
    · rw [Array.getElem?_setIfInBounds_ne (by omega), Array.getElem?_setIfInBounds_self_of_lt s1]
    · rw [Array.getElem?_setIfInBounds_self_of_lt (by simpa using s2)]
  · rw [List.getElem?_set_ne (Ne.symm e)] at hp
    have := h _ _ hp
    rw [Nat.zero_add] at this
    constructor
    · rw [Array.getElem?_setIfInBounds_ne (by omega), Array.getElem?_setIfInBounds_ne (by omega)]; exact this.1
    · rw [Array.getElem?_setIfInBounds_ne (by omega), Array.getElem?_setIfInBounds_ne (by omega)]; exact this.2
def setAt (ps : List Pg) (n : Int) (f : Pg → Pg) : List Pg := if 0 ≤ n then (match ps[n.toNat]? with | some p => ps.set n.toNat (f p) | none => ps) else ps
theorem setAt_length (ps : List Pg) (n : Int) (f : Pg → Pg) : (setAt ps n f).length = ps.length := by
  unfold setAt; split
  · split <;> simp
  · rfl
/-- What a function value answers at a page. -/
def DoesPg (w : World) (fv : Value) (fn : Nat) (lb : Array Value) (f : Pg → Pg) : Prop := fv = .func (.func fn) #[] lb ∧ ∀ p, Calls Try.prog fn (#[.agg #[.int .i64 p.place, .string p.data]] ++ lb) w fun e w' => e = .returned (.agg #[.int .i64 (f p).place, .string (f p).data]) ∧ Below w.heap.size w w'
def SetAPost (w : World) (pb : Nat) (qs : List Pg) (e : Ending) (w' : World) : Prop := (∃ v, e = .returned v) ∧ (∃ cs, w'.heap[pb]? = some (.cells cs 56 (0, 0)) ∧ PgsIn cs 0 qs) ∧ Frm (fun k => k = pb) w w'
theorem take1_calls {w : World} {xb : Nat} {x : En} {cs : Array Value} {t : Nat} (p : Pg) (hx : w.heap[xb]? = some (.cells cs t (0, 0))) (hc : cs = (Value.int .i64 x.1 :: rcCells x.2).toArray) (hok : RcOk x.2) :
    Calls Try.prog 118 #[.agg #[.int .i64 p.place, .string p.data], .pointer (some ⟨xb, 0, none⟩)] w fun e w' => e = .returned (.agg #[.int .i64 (applyP p x.1 x.2).place, .string (applyP p x.1 x.2).data]) ∧ Below w.heap.size w w' := by
  have hlx := lt_of_block hx
  subst hc
  obtain ⟨A1, n1, c1, e1⟩ := hok.tx1
  obtain ⟨A2, n2, c2, e2⟩ := hok.pg1
  unfold rcCells at hx
  rw [e1, e2] at hx
  obtain ⟨d0, d1, d2, d3, d4, d5, d6, d7, d8, d9, d10, d11⟩ := lit12 hx
  have HC := Lib.hid (apply_calls p x.1 x.2 · (by have := hok.aft; omega) hok.tx1 hok.pg1)
  obtain ⟨q, hq⟩ : ∃ q, q = applyP p x.1 x.2 := ⟨_, rfl⟩
  have HC2 : ∀ W, Calls Try.prog 109 #[.agg #[.int .i64 p.place, .string p.data], .int .i64 x.1, .agg #[.int .i64 x.2.kind, .int .i64 x.2.txn, .int .i64 x.2.page, .int .i64 x.2.off, .int .i64 x.2.prev, .int .i64 x.2.next, .int .i64 x.2.begin_, .string x.2.before, .string x.2.after, .slice A1 n1 c1, .slice A2 n2 c2]] W (ApplyPost W q) := fun W => by
    rw [hq, ← e1, ← e2]; exact HC.out W
  rw [← hq]
  have HCC := Lib.hid HC2
  clear HC HC2 hq e1 e2 hx
  go_enter Try.func118, Try.ntmps118
  go_wp2_with (go_at_call 109; refine (HCC.out _).mono ?_; rintro e w1 ⟨rfl, b1⟩; have hr1 := (b1.block (w.heap.size + 1) (by simp)).trans (blk_new1 w _ _); have r0 := (cell_of_block hr1 0); have r1 := (cell_of_block hr1 1); have g0 := frozen_of_block hr1 0; have g1 := frozen_of_block hr1 1)
  refine bodyPost_ret (v := .agg #[.int .i64 q.place, .string q.data]) (by simp [results, Try.results118, go_sem, r0, r1]) rfl ⟨rfl, ?_⟩
  have h1 := below_then (((Below.refl w.heap.size w).alloc (Nat.le_refl _) _).alloc (by simp) _) b1 (by simp; omega)
  exact (h1.setCell (p := ⟨w.heap.size + 1, 0, none⟩) (by show w.heap.size ≤ w.heap.size + 1; omega) _).setCell (p := ⟨w.heap.size + 1, 1, none⟩) (by show w.heap.size ≤ w.heap.size + 1; omega) _
set_option maxHeartbeats 2000000 in
set_option maxRecDepth 100000 in
theorem setTake_calls {w : World} {pb c xb : Nat} {ps : List Pg} {n : Int} {f : Pg → Pg} {cs : Array Value} (h8 : ps.length ≤ 8) (hp : w.heap[pb]? = some (.cells cs 56 (0, 0))) (hin : PgsIn cs 0 ps)
    (hf : ∀ p W, Below w.heap.size w W → Calls Try.prog 118 #[.agg #[.int .i64 p.place, .string p.data], .pointer (some ⟨xb, 0, none⟩)] W fun e w' => e = .returned (.agg #[.int .i64 (f p).place, .string (f p).data]) ∧ Below W.heap.size W w') :
    Calls Try.prog 94 #[.slice (some ⟨pb, 0, none⟩) ps.length c, .int .i64 n, .func (.func 118) #[] #[.pointer (some ⟨xb, 0, none⟩)]] w (SetAPost w pb (setAt ps n f)) := by
  by_cases h0 : 0 ≤ n
  · by_cases h1 : n < ps.length
    · obtain ⟨i, rfl⟩ := Int.eq_ofNat_of_zero_le h0
      have hi : i < ps.length := by omega
      obtain ⟨p, hpi⟩ : ∃ p, ps[i]? = some p := ⟨_, List.getElem?_eq_getElem hi⟩
      have hs : setAt ps i f = ps.set i (f p) := by unfold setAt; rw [if_pos h0, Int.toNat_natCast, hpi]
      rw [hs]
      obtain ⟨p1, p2⟩ := hin i p hpi
      rw [Nat.zero_add] at p1 p2
      have c0 : w.cell? ⟨pb, i * 2, none⟩ = some (.int .i64 p.place) := (cell_of_block hp _).trans p1
      have c1 : w.cell? ⟨pb, i * 2 + 1, none⟩ = some (.string p.data) := (cell_of_block hp _).trans p2
      have HF := Lib.hid (hf p w (Below.refl _ _))
      have HI := Lib.hid (pgsIn_set hin hi (f p))
      have HP := Lib.hid hp
      have hlp := lt_of_block hp
      have t1 : decide ((0 : Int) ≤ (i : Int)) = true := decide_eq_true h0
      have t2 : decide ((i : Int) < (ps.length : Int)) = true := decide_eq_true h1
      clear hf hin hp hpi hs p1 p2
      go_enter Try.func94, Try.ntmps94
      go_wp2_with (go_at_call 118; refine HF.out.mono ?_; rintro e w1 ⟨rfl, b1⟩; have hp1 := (b1.block _ hlp).trans HP.out; have r0 := (b1.cell (p := ⟨pb, i * 2, none⟩) hlp).trans c0; have r1 := (b1.cell (p := ⟨pb, i * 2 + 1, none⟩) hlp).trans c1; have g0 := frozen_of_block hp1 (i * 2); have g1 := frozen_of_block hp1 (i * 2 + 1))
      refine bodyPost_end (results_none rfl _ _ _) rfl ?_
      refine ⟨⟨_, rfl⟩, ⟨_, setCell_block _ _ _ _ (setCell_block _ _ _ _ hp1), HI.out⟩, ?_⟩
      refine ⟨b1.os, b1.tape, b1.output, by have := b1.size; simp [World.setCell]; omega, fun k hk hne => ?_⟩
      exact (Below.heap_setCell _ _ _ _ hne).trans ((Below.heap_setCell _ _ _ _ hne).trans (b1.block k hk))
    · have hs : setAt ps n f = ps := by
        unfold setAt; rw [if_pos h0, List.getElem?_eq_none (by omega)]
      rw [hs]
      have t1 : decide ((0 : Int) ≤ n) = true := decide_eq_true h0
      have t2 : decide (n < (ps.length : Int)) = false := decide_eq_false h1
      have HP := Lib.hid hp
      clear hf hs hp
      go_enter Try.func94, Try.ntmps94
      go_wp2_with fail
      refine bodyPost_end (results_none rfl _ _ _) rfl ?_
      exact ⟨⟨_, rfl⟩, ⟨_, HP.out, hin⟩, Frm.refl _ _⟩
  · have hs : setAt ps n f = ps := by unfold setAt; rw [if_neg h0]
    rw [hs]
    have t1 : decide ((0 : Int) ≤ n) = false := decide_eq_false h0
    have HP := Lib.hid hp
    clear hf hs hp
    go_enter Try.func94, Try.ntmps94
    go_wp2_with fail
    refine bodyPost_end (results_none rfl _ _ _) rfl ?_
    exact ⟨⟨_, rfl⟩, ⟨_, HP.out, hin⟩, Frm.refl _ _⟩
set_option maxHeartbeats 2000000 in
set_option maxRecDepth 100000 in
theorem setUndo_calls {w : World} {pb c xb : Nat} {ps : List Pg} {n : Int} {f : Pg → Pg} {cs : Array Value} (h8 : ps.length ≤ 8) (hp : w.heap[pb]? = some (.cells cs 56 (0, 0))) (hin : PgsIn cs 0 ps)
    (hf : ∀ p W, Below w.heap.size w W → Calls Try.prog 95 #[.agg #[.int .i64 p.place, .string p.data], .pointer (some ⟨xb, 0, none⟩)] W fun e w' => e = .returned (.agg #[.int .i64 (f p).place, .string (f p).data]) ∧ Below W.heap.size W w') :
    Calls Try.prog 94 #[.slice (some ⟨pb, 0, none⟩) ps.length c, .int .i64 n, .func (.func 95) #[] #[.pointer (some ⟨xb, 0, none⟩)]] w (SetAPost w pb (setAt ps n f)) := by
  by_cases h0 : 0 ≤ n
  · by_cases h1 : n < ps.length
    · obtain ⟨i, rfl⟩ := Int.eq_ofNat_of_zero_le h0
      have hi : i < ps.length := by omega
      obtain ⟨p, hpi⟩ : ∃ p, ps[i]? = some p := ⟨_, List.getElem?_eq_getElem hi⟩
      have hs : setAt ps i f = ps.set i (f p) := by unfold setAt; rw [if_pos h0, Int.toNat_natCast, hpi]
      rw [hs]
      obtain ⟨p1, p2⟩ := hin i p hpi
      rw [Nat.zero_add] at p1 p2
      have c0 : w.cell? ⟨pb, i * 2, none⟩ = some (.int .i64 p.place) := (cell_of_block hp _).trans p1
      have c1 : w.cell? ⟨pb, i * 2 + 1, none⟩ = some (.string p.data) := (cell_of_block hp _).trans p2
      have HF := Lib.hid (hf p w (Below.refl _ _))
      have HI := Lib.hid (pgsIn_set hin hi (f p))
      have HP := Lib.hid hp
      have hlp := lt_of_block hp
      have t1 : decide ((0 : Int) ≤ (i : Int)) = true := decide_eq_true h0
      have t2 : decide ((i : Int) < (ps.length : Int)) = true := decide_eq_true h1
      clear hf hin hp hpi hs p1 p2
      go_enter Try.func94, Try.ntmps94
      go_wp2_with (go_at_call 95; refine HF.out.mono ?_; rintro e w1 ⟨rfl, b1⟩; have hp1 := (b1.block _ hlp).trans HP.out; have r0 := (b1.cell (p := ⟨pb, i * 2, none⟩) hlp).trans c0; have r1 := (b1.cell (p := ⟨pb, i * 2 + 1, none⟩) hlp).trans c1; have g0 := frozen_of_block hp1 (i * 2); have g1 := frozen_of_block hp1 (i * 2 + 1))
      refine bodyPost_end (results_none rfl _ _ _) rfl ?_
      refine ⟨⟨_, rfl⟩, ⟨_, setCell_block _ _ _ _ (setCell_block _ _ _ _ hp1), HI.out⟩, ?_⟩
      refine ⟨b1.os, b1.tape, b1.output, by have := b1.size; simp [World.setCell]; omega, fun k hk hne => ?_⟩
      exact (Below.heap_setCell _ _ _ _ hne).trans ((Below.heap_setCell _ _ _ _ hne).trans (b1.block k hk))
    · have hs : setAt ps n f = ps := by
        unfold setAt; rw [if_pos h0, List.getElem?_eq_none (by omega)]
      rw [hs]
      have t1 : decide ((0 : Int) ≤ n) = true := decide_eq_true h0
      have t2 : decide (n < (ps.length : Int)) = false := decide_eq_false h1
      have HP := Lib.hid hp
      clear hf hs hp
      go_enter Try.func94, Try.ntmps94
      go_wp2_with fail
      refine bodyPost_end (results_none rfl _ _ _) rfl ?_
      exact ⟨⟨_, rfl⟩, ⟨_, HP.out, hin⟩, Frm.refl _ _⟩
  · have hs : setAt ps n f = ps := by unfold setAt; rw [if_neg h0]
    rw [hs]
    have t1 : decide ((0 : Int) ≤ n) = false := decide_eq_false h0
    have HP := Lib.hid hp
    clear hf hs hp
    go_enter Try.func94, Try.ntmps94
    go_wp2_with fail
    refine bodyPost_end (results_none rfl _ _ _) rfl ?_
    exact ⟨⟨_, rfl⟩, ⟨_, HP.out, hin⟩, Frm.refl _ _⟩
end Go.Proofs.Ytepkonhgkabkcaa
