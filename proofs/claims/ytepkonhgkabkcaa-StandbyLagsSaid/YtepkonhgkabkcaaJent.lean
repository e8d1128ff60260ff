/- Package judge: entry. No condition. -/
import Derived.Test.YtepkonhgkabkcaaJown1
import Derived.Test.YtepkonhgkabkcaaJown2
import Derived.Test.YtepkonhgkabkcaaJown3
import Derived.Test.YtepkonhgkabkcaaJown4
import Derived.Test.YtepkonhgkabkcaaJown5
import Derived.StillTailTactics
namespace Go.Proofs.Ytepkonhgkabkcaa
open Go.RowKit Go.Maps MapI
set_option linter.unusedVariables false
set_option linter.unusedSimpArgs false
def EntAt (w : World) (b o : Nat) (a : Int) (r : Rc) : Prop := w.cell? ⟨b, o, none⟩ = some (.int .i64 a) ∧ RcAt w b (o + 1) r
theorem EntAt.of_block {w w' : World} {b o : Nat} {a : Int} {r : Rc} (h : EntAt w b o a r) (hb : w'.heap[b]? = w.heap[b]?) : EntAt w' b o a r := ⟨(World.cell?_of_block (a := ⟨b, o, none⟩) hb).trans h.1, h.2.of_block hb⟩
def lastJ (s : JSt) (a : Int) : JSt := { s with last := max s.last a }
def entryJ (s : JSt) (a : Int) (r : Rc) : JSt × Bool :=
  if r.kind = 1 ∨ r.kind = 2 ∨ r.kind = 3 ∨ r.kind = 4 then ((ownJ (lastJ s a) a r).1, (ownJ (lastJ s a) a r).2 && decide (s.last < a))
  else if r.kind = 5 then ({ lastJ s a with begun := put a (IntKind.i64.wrap ((get a s.begun).getD 0 + 1)) s.begun }, decide (s.last < a))
  else if r.kind = 6 then (lastJ s a, decide (s.last < a) && decide (0 < (get r.begin_ s.begun).getD 0))
  else (lastJ s a, false)
theorem Jud.drew {w : World} {B jb mb gb : Nat} {l : List (Int × JEnt)} {fv : Value} {s : JSt} (h : Jud w B jb mb gb l fv s) (N : Nat) : Jud (w.drewN N) B jb mb gb l fv s :=
  h.below ⟨rfl, rfl, rfl, Nat.le_refl _, fun _ _ => rfl⟩
theorem Jud.lasted {w : World} {B jb mb gb : Nat} {l : List (Int × JEnt)} {fv : Value} {s : JSt} (h : Jud w B jb mb gb l fv s) (a : Int) (N : Nat) :
    Jud ((w.drewN N).setCell ⟨jb, 0, none⟩ (.int .i64 (max s.last a))) B jb mb gb l fv (lastJ s a) ∧ Foot B w ((w.drewN N).setCell ⟨jb, 0, none⟩ (.int .i64 (max s.last a))) := by
  obtain ⟨cs, hjb, j0, j1, jp, j18, j19⟩ := h.blk.cs
  have hk : ∀ k, k ≠ jb → ((w.drewN N).setCell ⟨jb, 0, none⟩ (.int .i64 (max s.last a))).heap[k]? = w.heap[k]? := fun k h1 => Below.heap_setCell (w.drewN N) _ _ _ h1
  have h0 := (Array.getElem?_eq_some_iff.1 j0).1
  refine ⟨h.own (last := max s.last a) (ps := s.pages) (fun k _ hne => hk k hne) ⟨⟨_, setCell_block (w.drewN N) jb 0 _ hjb, ?_, ?_, fun i p hp => ⟨?_, ?_⟩, ?_, ?_⟩, h.blk.len⟩, ⟨rfl, rfl, rfl, by simp [World.setCell], fun k h1 => hk k (by have := h.hB; omega)⟩, typed_but hjb (by decide) fun k _ hne => hk k hne⟩
  · rw [Array.getElem?_setIfInBounds_self_of_lt h0]
  · rw [Array.getElem?_setIfInBounds_ne (by omega)]; exact j1
  · rw [Array.getElem?_setIfInBounds_ne (by omega)]; exact (jp i p hp).1
  · rw [Array.getElem?_setIfInBounds_ne (by omega)]; exact (jp i p hp).2
  · rw [Array.getElem?_setIfInBounds_ne (by omega)]; exact j18
  · rw [Array.getElem?_setIfInBounds_ne (by omega)]; exact j19
theorem own_com {w : World} {B jb mb gb rb ro : Nat} {l : List (Int × JEnt)} {fv : Value} {s : JSt} {r : Rc} {a : Int} (h : Jud w B jb mb gb l fv s) (hB : B ≤ w.heap.size) (hr : RcAt w rb ro r) (hrb : rb < B) (hok : RcOk r) (hlen : s.opn.length ≤ 100000) (hst : ∀ p ∈ s.opn, p.2.stand.length ≤ 100000) (hk : r.kind = 3) :
    Calls Try.prog 102 #[.pointer (some ⟨jb, 0, none⟩), .int .i64 a, .pointer (some ⟨rb, ro, none⟩)] w (OwnPost w B jb mb gb fv (ownJ s a r)) := by
  cases ho : s.out with
  | none => exact own_three h hB hr hrb hok hlen hst hk ho
  | some ps => exact own_threeO h hB hr hrb hok hlen hst hk ho
set_option maxHeartbeats 2000000 in
set_option maxRecDepth 100000 in
theorem entry_one {w : World} {B jb mb gb b o : Nat} {l : List (Int × JEnt)} {fv : Value} {s : JSt} {r : Rc} {a : Int} (h : Jud w B jb mb gb l fv s) (hB : B ≤ w.heap.size) (hx : EntAt w b o a r) (hrb : b < B) (hok : RcOk r) (hwa : (Lit.int .i64 a).wf = true)
    (hlen : s.opn.length ≤ 100000) (hbl : s.begun.length ≤ 100000) (hst : ∀ p ∈ s.opn, p.2.stand.length ≤ 100000) (hk : r.kind = 1) :
    Calls Try.prog 54 #[.pointer (some ⟨jb, 0, none⟩), .pointer (some ⟨b, o, none⟩)] w (OwnPost w B jb mb gb fv (entryJ s a r)) := by
  obtain ⟨x0, hr⟩ := hx
  obtain ⟨cs, hjb, j0, j1, jp, j18, j19⟩ := h.blk.cs
  have q0 : w.cell? ⟨jb, 0, none⟩ = some (.int .i64 s.last) := (cell_of_block hjb _).trans j0
  have f0 : w.frozen? ⟨jb, 0, none⟩ = false := frozen_of_block hjb _
  have hJB := h.hB
  have hne : b ≠ jb := by omega
  have hrs := RcAt.cells hr
  obtain ⟨r0, r1, -, -, -, -, r6, -⟩ := hrs
  rw [hk] at r0
  go_enter Try.func54, Try.ntmps54
  go_wp2_with fail
  go_quiet (fail)
  rename_i nq
  go_wp2_with fail
  obtain ⟨hJ2, hb2⟩ := h.lasted a (nq + 1)
  go_region
  simp only [Exit.then]
  refine (by assumption : ∀ (a : Act) (w_1 : World), Code.wp _ _ _ _ _ → _) _ _ ?_
  have hJ3 : Jud ((w.drewN (nq + 1)).setCell ⟨jb, 0, none⟩ (.int .i64 (max s.last a))).drew B jb mb gb l fv (lastJ s a) := hJ2.below ⟨rfl, rfl, rfl, Nat.le_refl _, fun _ _ => rfl⟩
  have hr3 : RcAt ((w.drewN (nq + 1)).setCell ⟨jb, 0, none⟩ (.int .i64 (max s.last a))).drew b (o + 1) r := hr.of_block (hb2.block _ hrb)
  have x3 : ((w.drewN (nq + 1)).setCell ⟨jb, 0, none⟩ (.int .i64 (max s.last a))).cell? ⟨b, o, none⟩ = some (.int .i64 a) := (World.cell?_of_block (a := ⟨b, o, none⟩) (hb2.block _ hrb)).trans x0
  have hO := own_one hJ3 (Nat.le_trans hB hb2.size) hr3 hrb hok hlen hst hk (a := a)
  obtain ⟨c, hc⟩ : ∃ c, c = (ownJ (lastJ s a) a r).2 := ⟨_, rfl⟩
  unfold OwnPost at hO
  rw [← hc] at hO
  have HO := Lib.hid hO
  have HC := Lib.hid hc
  have HB := Lib.hid hb2
  have hb2' := hb2
  have HX := Lib.hid x3
  clear hO hc hJ3 hr3 hJ2 hb2 hjb j0 j1 jp j18 j19
  generalize hW : (w.drewN (nq + 1)).setCell ⟨jb, 0, none⟩ (.int .i64 (max s.last a)) = W at *
  have x3d : World.cell? { heap := W.heap, tape := W.tape, drawn := W.drawn + 1, os := W.os, output := W.output } ⟨b, o, none⟩ = some (.int .i64 a) := x3
  have r30 : W.cell? ⟨b, o + 1, none⟩ = some (.int .i64 r.kind) := (World.cell?_of_block (a := ⟨b, o + 1, none⟩) (hb2'.block _ hrb)).trans (hr 0 _ rfl)
  rw [hk] at r30
  clear hW hb2'
  cases c
  · go_wp2_with fail
    go_still_tail 8, (by kernel_rfl)
    change wpList _ _ _ _ _ W.drew
    go_wp2_with (first | (go_at_call 102; refine HO.out.mono ?_; rintro e w3 ⟨rfl, l3, hJ4, hb3⟩))
    all_goals
      go_ret
      refine own_close hJ4 ?_ ?_ (HB.out.trans hb3.undrew)
      · unfold entryJ
        rw [if_pos (by omega)]
      · unfold entryJ
        rw [if_pos (by omega), ← HC.out]
        first | rfl | simp

  · go_wp2_with fail
    go_still_tail 8, (by kernel_rfl)
    change wpList _ _ _ _ _ W.drew
    go_wp2_with (first | (go_at_call 102; refine HO.out.mono ?_; rintro e w3 ⟨rfl, l3, hJ4, hb3⟩))
    all_goals
      go_ret
      refine own_close hJ4 ?_ ?_ (HB.out.trans hb3.undrew)
      · unfold entryJ
        rw [if_pos (by omega)]
      · unfold entryJ
        rw [if_pos (by omega), ← HC.out]
        first | rfl | simp
set_option maxHeartbeats 2000000 in
set_option maxRecDepth 100000 in
theorem entry_two {w : World} {B jb mb gb b o : Nat} {l : List (Int × JEnt)} {fv : Value} {s : JSt} {r : Rc} {a : Int} (h : Jud w B jb mb gb l fv s) (hB : B ≤ w.heap.size) (hx : EntAt w b o a r) (hrb : b < B) (hok : RcOk r) (hwa : (Lit.int .i64 a).wf = true)
    (hlen : s.opn.length ≤ 100000) (hbl : s.begun.length ≤ 100000) (hst : ∀ p ∈ s.opn, p.2.stand.length ≤ 100000) (hk : r.kind = 2) :
    Calls Try.prog 54 #[.pointer (some ⟨jb, 0, none⟩), .pointer (some ⟨b, o, none⟩)] w (OwnPost w B jb mb gb fv (entryJ s a r)) := by
  obtain ⟨x0, hr⟩ := hx
  obtain ⟨cs, hjb, j0, j1, jp, j18, j19⟩ := h.blk.cs
  have q0 : w.cell? ⟨jb, 0, none⟩ = some (.int .i64 s.last) := (cell_of_block hjb _).trans j0
  have f0 : w.frozen? ⟨jb, 0, none⟩ = false := frozen_of_block hjb _
  have hJB := h.hB
  have hne : b ≠ jb := by omega
  have hrs := RcAt.cells hr
  obtain ⟨r0, r1, -, -, -, -, r6, -⟩ := hrs
  rw [hk] at r0
  go_enter Try.func54, Try.ntmps54
  go_wp2_with fail
  go_quiet (fail)
  rename_i nq
  go_wp2_with fail
  obtain ⟨hJ2, hb2⟩ := h.lasted a (nq + 1)
  go_region
  simp only [Exit.then]
  refine (by assumption : ∀ (a : Act) (w_1 : World), Code.wp _ _ _ _ _ → _) _ _ ?_
  have hJ3 : Jud ((w.drewN (nq + 1)).setCell ⟨jb, 0, none⟩ (.int .i64 (max s.last a))).drew B jb mb gb l fv (lastJ s a) := hJ2.below ⟨rfl, rfl, rfl, Nat.le_refl _, fun _ _ => rfl⟩
  have hr3 : RcAt ((w.drewN (nq + 1)).setCell ⟨jb, 0, none⟩ (.int .i64 (max s.last a))).drew b (o + 1) r := hr.of_block (hb2.block _ hrb)
  have x3 : ((w.drewN (nq + 1)).setCell ⟨jb, 0, none⟩ (.int .i64 (max s.last a))).cell? ⟨b, o, none⟩ = some (.int .i64 a) := (World.cell?_of_block (a := ⟨b, o, none⟩) (hb2.block _ hrb)).trans x0
  have hO := own_two hJ3 (Nat.le_trans hB hb2.size) hr3 hrb hok hlen hst hk (a := a)
  obtain ⟨c, hc⟩ : ∃ c, c = (ownJ (lastJ s a) a r).2 := ⟨_, rfl⟩
  unfold OwnPost at hO
  rw [← hc] at hO
  have HO := Lib.hid hO
  have HC := Lib.hid hc
  have HB := Lib.hid hb2
  have hb2' := hb2
  have HX := Lib.hid x3
  clear hO hc hJ3 hr3 hJ2 hb2 hjb j0 j1 jp j18 j19
  generalize hW : (w.drewN (nq + 1)).setCell ⟨jb, 0, none⟩ (.int .i64 (max s.last a)) = W at *
  have x3d : World.cell? { heap := W.heap, tape := W.tape, drawn := W.drawn + 1, os := W.os, output := W.output } ⟨b, o, none⟩ = some (.int .i64 a) := x3
  have r30 : W.cell? ⟨b, o + 1, none⟩ = some (.int .i64 r.kind) := (World.cell?_of_block (a := ⟨b, o + 1, none⟩) (hb2'.block _ hrb)).trans (hr 0 _ rfl)
  rw [hk] at r30
  clear hW hb2'
  cases c
  · go_wp2_with fail
    go_still_tail 8, (by kernel_rfl)
    change wpList _ _ _ _ _ W.drew
    go_wp2_with (first | (go_at_call 102; refine HO.out.mono ?_; rintro e w3 ⟨rfl, l3, hJ4, hb3⟩))
    all_goals
      go_ret
      refine own_close hJ4 ?_ ?_ (HB.out.trans hb3.undrew)
      · unfold entryJ
        rw [if_pos (by omega)]
      · unfold entryJ
        rw [if_pos (by omega), ← HC.out]
        first | rfl | simp

  · go_wp2_with fail
    go_still_tail 8, (by kernel_rfl)
    change wpList _ _ _ _ _ W.drew
    go_wp2_with (first | (go_at_call 102; refine HO.out.mono ?_; rintro e w3 ⟨rfl, l3, hJ4, hb3⟩))
    all_goals
      go_ret
      refine own_close hJ4 ?_ ?_ (HB.out.trans hb3.undrew)
      · unfold entryJ
        rw [if_pos (by omega)]
      · unfold entryJ
        rw [if_pos (by omega), ← HC.out]
        first | rfl | simp
set_option maxHeartbeats 2000000 in
set_option maxRecDepth 100000 in
theorem entry_three {w : World} {B jb mb gb b o : Nat} {l : List (Int × JEnt)} {fv : Value} {s : JSt} {r : Rc} {a : Int} (h : Jud w B jb mb gb l fv s) (hB : B ≤ w.heap.size) (hx : EntAt w b o a r) (hrb : b < B) (hok : RcOk r) (hwa : (Lit.int .i64 a).wf = true)
    (hlen : s.opn.length ≤ 100000) (hbl : s.begun.length ≤ 100000) (hst : ∀ p ∈ s.opn, p.2.stand.length ≤ 100000) (hk : r.kind = 3) :
    Calls Try.prog 54 #[.pointer (some ⟨jb, 0, none⟩), .pointer (some ⟨b, o, none⟩)] w (OwnPost w B jb mb gb fv (entryJ s a r)) := by
  obtain ⟨x0, hr⟩ := hx
  obtain ⟨cs, hjb, j0, j1, jp, j18, j19⟩ := h.blk.cs
  have q0 : w.cell? ⟨jb, 0, none⟩ = some (.int .i64 s.last) := (cell_of_block hjb _).trans j0
  have f0 : w.frozen? ⟨jb, 0, none⟩ = false := frozen_of_block hjb _
  have hJB := h.hB
  have hne : b ≠ jb := by omega
  have hrs := RcAt.cells hr
  obtain ⟨r0, r1, -, -, -, -, r6, -⟩ := hrs
  rw [hk] at r0
  go_enter Try.func54, Try.ntmps54
  go_wp2_with fail
  go_quiet (fail)
  rename_i nq
  go_wp2_with fail
  obtain ⟨hJ2, hb2⟩ := h.lasted a (nq + 1)
  go_region
  simp only [Exit.then]
  refine (by assumption : ∀ (a : Act) (w_1 : World), Code.wp _ _ _ _ _ → _) _ _ ?_
  have hJ3 : Jud ((w.drewN (nq + 1)).setCell ⟨jb, 0, none⟩ (.int .i64 (max s.last a))).drew B jb mb gb l fv (lastJ s a) := hJ2.below ⟨rfl, rfl, rfl, Nat.le_refl _, fun _ _ => rfl⟩
  have hr3 : RcAt ((w.drewN (nq + 1)).setCell ⟨jb, 0, none⟩ (.int .i64 (max s.last a))).drew b (o + 1) r := hr.of_block (hb2.block _ hrb)
  have x3 : ((w.drewN (nq + 1)).setCell ⟨jb, 0, none⟩ (.int .i64 (max s.last a))).cell? ⟨b, o, none⟩ = some (.int .i64 a) := (World.cell?_of_block (a := ⟨b, o, none⟩) (hb2.block _ hrb)).trans x0
  have hO := own_com hJ3 (Nat.le_trans hB hb2.size) hr3 hrb hok hlen hst hk (a := a)
  obtain ⟨c, hc⟩ : ∃ c, c = (ownJ (lastJ s a) a r).2 := ⟨_, rfl⟩
  unfold OwnPost at hO
  rw [← hc] at hO
  have HO := Lib.hid hO
  have HC := Lib.hid hc
  have HB := Lib.hid hb2
  have hb2' := hb2
  have HX := Lib.hid x3
  clear hO hc hJ3 hr3 hJ2 hb2 hjb j0 j1 jp j18 j19
  generalize hW : (w.drewN (nq + 1)).setCell ⟨jb, 0, none⟩ (.int .i64 (max s.last a)) = W at *
  have x3d : World.cell? { heap := W.heap, tape := W.tape, drawn := W.drawn + 1, os := W.os, output := W.output } ⟨b, o, none⟩ = some (.int .i64 a) := x3
  have r30 : W.cell? ⟨b, o + 1, none⟩ = some (.int .i64 r.kind) := (World.cell?_of_block (a := ⟨b, o + 1, none⟩) (hb2'.block _ hrb)).trans (hr 0 _ rfl)
  rw [hk] at r30
  clear hW hb2'
  cases c
  · go_wp2_with fail
    go_still_tail 8, (by kernel_rfl)
    change wpList _ _ _ _ _ W.drew
    go_wp2_with (first | (go_at_call 102; refine HO.out.mono ?_; rintro e w3 ⟨rfl, l3, hJ4, hb3⟩))
    all_goals
      go_ret
      refine own_close hJ4 ?_ ?_ (HB.out.trans hb3.undrew)
      · unfold entryJ
        rw [if_pos (by omega)]
      · unfold entryJ
        rw [if_pos (by omega), ← HC.out]
        first | rfl | simp

  · go_wp2_with fail
    go_still_tail 8, (by kernel_rfl)
    change wpList _ _ _ _ _ W.drew
    go_wp2_with (first | (go_at_call 102; refine HO.out.mono ?_; rintro e w3 ⟨rfl, l3, hJ4, hb3⟩))
    all_goals
      go_ret
      refine own_close hJ4 ?_ ?_ (HB.out.trans hb3.undrew)
      · unfold entryJ
        rw [if_pos (by omega)]
      · unfold entryJ
        rw [if_pos (by omega), ← HC.out]
        first | rfl | simp
set_option maxHeartbeats 2000000 in
set_option maxRecDepth 100000 in
theorem entry_four {w : World} {B jb mb gb b o : Nat} {l : List (Int × JEnt)} {fv : Value} {s : JSt} {r : Rc} {a : Int} (h : Jud w B jb mb gb l fv s) (hB : B ≤ w.heap.size) (hx : EntAt w b o a r) (hrb : b < B) (hok : RcOk r) (hwa : (Lit.int .i64 a).wf = true)
    (hlen : s.opn.length ≤ 100000) (hbl : s.begun.length ≤ 100000) (hst : ∀ p ∈ s.opn, p.2.stand.length ≤ 100000) (hk : r.kind = 4) :
    Calls Try.prog 54 #[.pointer (some ⟨jb, 0, none⟩), .pointer (some ⟨b, o, none⟩)] w (OwnPost w B jb mb gb fv (entryJ s a r)) := by
  obtain ⟨x0, hr⟩ := hx
  obtain ⟨cs, hjb, j0, j1, jp, j18, j19⟩ := h.blk.cs
  have q0 : w.cell? ⟨jb, 0, none⟩ = some (.int .i64 s.last) := (cell_of_block hjb _).trans j0
  have f0 : w.frozen? ⟨jb, 0, none⟩ = false := frozen_of_block hjb _
  have hJB := h.hB
  have hne : b ≠ jb := by omega
  have hrs := RcAt.cells hr
  obtain ⟨r0, r1, -, -, -, -, r6, -⟩ := hrs
  rw [hk] at r0
  go_enter Try.func54, Try.ntmps54
  go_wp2_with fail
  go_quiet (fail)
  rename_i nq
  go_wp2_with fail
  obtain ⟨hJ2, hb2⟩ := h.lasted a (nq + 1)
  go_region
  simp only [Exit.then]
  refine (by assumption : ∀ (a : Act) (w_1 : World), Code.wp _ _ _ _ _ → _) _ _ ?_
  have hJ3 : Jud ((w.drewN (nq + 1)).setCell ⟨jb, 0, none⟩ (.int .i64 (max s.last a))).drew B jb mb gb l fv (lastJ s a) := hJ2.below ⟨rfl, rfl, rfl, Nat.le_refl _, fun _ _ => rfl⟩
  have hr3 : RcAt ((w.drewN (nq + 1)).setCell ⟨jb, 0, none⟩ (.int .i64 (max s.last a))).drew b (o + 1) r := hr.of_block (hb2.block _ hrb)
  have x3 : ((w.drewN (nq + 1)).setCell ⟨jb, 0, none⟩ (.int .i64 (max s.last a))).cell? ⟨b, o, none⟩ = some (.int .i64 a) := (World.cell?_of_block (a := ⟨b, o, none⟩) (hb2.block _ hrb)).trans x0
  have hO := own_four hJ3 (Nat.le_trans hB hb2.size) hr3 hrb hok hlen hst hk (a := a)
  obtain ⟨c, hc⟩ : ∃ c, c = (ownJ (lastJ s a) a r).2 := ⟨_, rfl⟩
  unfold OwnPost at hO
  rw [← hc] at hO
  have HO := Lib.hid hO
  have HC := Lib.hid hc
  have HB := Lib.hid hb2
  have hb2' := hb2
  have HX := Lib.hid x3
  clear hO hc hJ3 hr3 hJ2 hb2 hjb j0 j1 jp j18 j19
  generalize hW : (w.drewN (nq + 1)).setCell ⟨jb, 0, none⟩ (.int .i64 (max s.last a)) = W at *
  have x3d : World.cell? { heap := W.heap, tape := W.tape, drawn := W.drawn + 1, os := W.os, output := W.output } ⟨b, o, none⟩ = some (.int .i64 a) := x3
  have r30 : W.cell? ⟨b, o + 1, none⟩ = some (.int .i64 r.kind) := (World.cell?_of_block (a := ⟨b, o + 1, none⟩) (hb2'.block _ hrb)).trans (hr 0 _ rfl)
  rw [hk] at r30
  clear hW hb2'
  cases c
  · go_wp2_with fail
    go_still_tail 8, (by kernel_rfl)
    change wpList _ _ _ _ _ W.drew
    go_wp2_with (first | (go_at_call 102; refine HO.out.mono ?_; rintro e w3 ⟨rfl, l3, hJ4, hb3⟩))
    all_goals
      go_ret
      refine own_close hJ4 ?_ ?_ (HB.out.trans hb3.undrew)
      · unfold entryJ
        rw [if_pos (by omega)]
      · unfold entryJ
        rw [if_pos (by omega), ← HC.out]
        first | rfl | simp

  · go_wp2_with fail
    go_still_tail 8, (by kernel_rfl)
    change wpList _ _ _ _ _ W.drew
    go_wp2_with (first | (go_at_call 102; refine HO.out.mono ?_; rintro e w3 ⟨rfl, l3, hJ4, hb3⟩))
    all_goals
      go_ret
      refine own_close hJ4 ?_ ?_ (HB.out.trans hb3.undrew)
      · unfold entryJ
        rw [if_pos (by omega)]
      · unfold entryJ
        rw [if_pos (by omega), ← HC.out]
        first | rfl | simp
end Go.Proofs.Ytepkonhgkabkcaa
