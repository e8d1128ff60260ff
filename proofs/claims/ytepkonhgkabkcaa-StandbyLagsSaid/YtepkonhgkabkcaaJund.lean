/- Package judge: undone. No condition. -/
import Derived.Test.YtepkonhgkabkcaaJst
namespace Go.Proofs.Ytepkonhgkabkcaa
open Go.RowKit Go.Maps MapI
set_option linter.unusedVariables false
set_option linter.unusedSimpArgs false

def undoneOk (t : JTx) (r : Rc) : Bool := match t.stand.getLast? with
  | none => false
  | some c => r.page == c.page && (r.off == c.off && (r.after.toList == c.before.toList && r.next == c.prev))
def popped (t : JTx) : JTx := { t with stand := t.stand.dropLast }
def UndPost (w : World) (B jb mb gb : Nat) (l : List (Int × JEnt)) (fv : Value) (s : JSt) (n : Int) (e : JEnt) (b : Bool) (t : JTx) (r : Ending) (w' : World) : Prop :=
  r = .returned (.bool b) ∧ ∃ e' : JEnt, e'.blk = e.blk ∧ e'.tx = t ∧ Jud w' B jb mb gb (put n e' l) fv { s with opn := put n t s.opn } ∧ Foot B w w'

theorem und_close {w : World} {B jb mb gb : Nat} {l : List (Int × JEnt)} {fv : Value} {s : JSt} {n : Int} {e : JEnt} (h : Jud w B jb mb gb l fv s) (hn : get n l = some e) (hB : B ≤ w.heap.size) {st : List Rc} {c : Rc} (hst : e.tx.stand = st ++ [c]) {g cap : Nat} (hv : e.sv = .slice (some ⟨g, 0, none⟩) (st.length + 1) cap) (o : Obj) (N : Nat) :
    ∃ e' : JEnt, e'.blk = e.blk ∧ e'.tx = popped e.tx ∧ Jud (((w.setCell ⟨e.blk, 3, none⟩ (.slice (some ⟨g, 0, none⟩) st.length st.length)).alloc o).drewN N) B jb mb gb (put n e' l) fv { s with opn := put n (popped e.tx) s.opn } ∧
      Foot B w (((w.setCell ⟨e.blk, 3, none⟩ (.slice (some ⟨g, 0, none⟩) st.length st.length)).alloc o).drewN N) := by
  have he := h.ents.ent _ (MapI.get_mem hn)
  dsimp only at he
  have hge := he.ge
  have hlt := he.lt
  have hown := he.own
  have e1 : e.tx.stand.length = st.length + 1 := by rw [hst]; simp
  have e2 : standCells e.tx.stand = standCells st ++ rcCells c := by rw [hst]; simp [standCells]
  rw [e1, e2, hv] at hown
  have hpop := hown.pop (standCells_length st)
  have hgl := (hown.lt g rfl).2
  have hgne : g ≠ e.blk := fun e3 => by
    obtain ⟨_, cur, h2, _⟩ := hown.block (k := g) rfl
    exact type_ne he.blk h2 (by decide) e3
  have hk : ∀ k, k < w.heap.size → k ≠ e.blk → (((w.setCell ⟨e.blk, 3, none⟩ (.slice (some ⟨g, 0, none⟩) st.length st.length)).alloc o).drewN N).heap[k]? = w.heap[k]? := fun k h1 h2 =>
    (Below.heap_alloc _ _ _ (by simpa using h1)).trans (Below.heap_setCell _ _ _ _ h2)
  refine ⟨⟨e.blk, .slice (some ⟨g, 0, none⟩) st.length st.length, popped e.tx⟩, rfl, rfl, ?_, ?_⟩
  · refine h.turned (e' := ⟨e.blk, .slice (some ⟨g, 0, none⟩) st.length st.length, popped e.tx⟩) hn rfl (fun k h1 h2 _ => hk k h1 h2) ⟨hge, ?_, ?_, ?_⟩ (.inr (.inl ?_))
    · refine (Below.heap_alloc _ _ _ (by simpa using hlt)).trans ?_
      refine (setCell_block _ _ _ _ he.blk).trans ?_
      simp [jxCells, popped]
    · show Cut _ _ _ _ _ (popped e.tx).stand.length (standCells (popped e.tx).stand)
      have e3 : (popped e.tx).stand = st := by simp [popped, hst]
      rw [e3]
      exact hpop.of_block (fun k hk' => by have : g = k := by simpa [Value.ownBlock] using hk'
                                           subst this; exact hk g hgl hgne)
    · intro r hr
      exact he.ok r (List.dropLast_subset _ hr)
    · rw [hv]; rfl
  · exact foot_but (((Below.refl B w).setCell hge _).alloc (by simpa using hB) o |> fun x => ⟨x.os, x.tape, x.output, x.size, x.block⟩) he.blk (by decide) hk

set_option maxHeartbeats 2000000 in
theorem undone_calls {w : World} {B jb mb gb rb ro : Nat} {l : List (Int × JEnt)} {fv : Value} {s : JSt} {n : Int} {e : JEnt} {r : Rc} (h : Jud w B jb mb gb l fv s) (hn : get n l = some e) (hB : B ≤ w.heap.size) (hr : RcAt w rb ro r) (hrb : rb < B) :
    Calls Try.prog 124 #[.pointer (some ⟨e.blk, 0, none⟩), .pointer (some ⟨rb, ro, none⟩)] w (UndPost w B jb mb gb l fv s n e (undoneOk e.tx r) (popped e.tx)) := by
  have he := h.ents.ent _ (MapI.get_mem hn)
  dsimp only at he
  have hge := he.ge
  have hlt := he.lt
  have hown := he.own
  have hok := he.ok
  rcases List.eq_nil_or_concat e.tx.stand with hst | ⟨st, c, hst⟩
  · rw [hst] at hown
    obtain ⟨A, cap, hv, -, -⟩ := hown.form
    have c3 : w.cell? ⟨e.blk, 3, none⟩ = some (.slice A 0 cap) := by rw [cell_of_block he.blk]; show some e.sv = _; rw [hv]; rfl
    have hE : undoneOk e.tx r = false := by unfold undoneOk; rw [hst]; rfl
    have hp : popped e.tx = e.tx := by unfold popped; rw [hst]; show ({ e.tx with stand := [] } : JTx) = e.tx; rw [← hst]
    rw [hE, hp]
    have hJ : Jud w B jb mb gb (put n e l) fv { s with opn := put n e.tx s.opn } := h.turned hn rfl (fun _ _ _ _ => rfl) he (.inr (.inl rfl))
    clear hE hp hst hown
    go_enter Try.func124, Try.ntmps124
    go_wp2
    go_ret
    exact ⟨rfl, e, rfl, rfl, hJ, Foot.refl _ _⟩
  · have hst' : e.tx.stand = st ++ [c] := by rw [hst]; simp
    have e1 : e.tx.stand.length = st.length + 1 := by rw [hst']; simp
    have e2 : standCells e.tx.stand = standCells st ++ rcCells c := by rw [hst']; simp [standCells]
    have hownL := hown
    rw [e1, e2] at hown
    obtain ⟨g, cap, hv, hc1, hc2⟩ := hown.formS (by omega)
    have hcl := fun A1 n1 c1 A2 n2 c2 hwn => und_close h hn hB hst' hv (.cells #[.int .i64 c.kind, .int .i64 c.txn, .int .i64 c.page, .int .i64 c.off, .int .i64 c.prev, .int .i64 c.next, .int .i64 c.begin_, .string c.before, .string c.after, .slice A1 n1 c1, .slice A2 n2 c2] 30) hwn
    have c3 : w.cell? ⟨e.blk, 3, none⟩ = some (.slice (some ⟨g, 0, none⟩) (st.length + 1) cap) := by rw [cell_of_block he.blk]; show some e.sv = _; rw [hv]
    have f3 : w.frozen? ⟨e.blk, 3, none⟩ = false := frozen_of_block he.blk 3
    have hcs : RcAt w g (st.length * 11) c := fun j u hj => by
      refine hown.cells (g := g) (by rw [hv]; rfl) _ _ ?_
      rw [← e2, hst']
      exact standCells_get (i := st.length) (by simp) j u hj
    have hrok : RcOk c := hok c (by rw [hst']; simp)
    obtain ⟨A1, n1, c1, hv1⟩ := hrok.tx1
    obtain ⟨A2, n2, c2, hv2⟩ := hrok.pg1
    obtain ⟨d0, d1, d2, d3, d4, d5, d6, d7, d8, d9, d10⟩ := hcs.cells
    rw [hv1] at d9
    rw [hv2] at d10
    obtain ⟨-, -, r2, r3, -, r5, -, -, r8, -, -⟩ := hr.cells
    have hrl := World.block_lt_of_cell? w _ r2
    have hne1 : rb ≠ e.blk := by omega
    have hE : undoneOk e.tx r = (r.page == c.page && (r.off == c.off && (r.after.toList == c.before.toList && r.next == c.prev))) := by unfold undoneOk; rw [hst']; simp
    rw [hE]
    unfold maxLen at hc2
    have hc3 : st.length ≤ 9223372036854775806 := by omega
    have hc4 : ((st.length + 1 : Nat) : Int) - 1 = st.length := by omega
    have HC := Lib.hid hcl
    have HC3 := Lib.hid hc3
    clear hE hst hst' hown hownL e1 e2 hv hcl hok hc4 hv1 hv2 hcs hrok
    cases t1 : (r.page == c.page)
    · go_enter Try.func124, Try.ntmps124
      go_wp2
      go_quiet (fail)
      go_wp2
      go_ret
      exact ⟨rfl, HC.out _ _ _ _ _ _ _⟩
    · cases t2 : (r.off == c.off)
      · go_enter Try.func124, Try.ntmps124
        go_wp2
        go_quiet (fail)
        go_wp2
        go_ret
        exact ⟨rfl, HC.out _ _ _ _ _ _ _⟩
      · cases t3 : (r.after.toList == c.before.toList)
        · go_enter Try.func124, Try.ntmps124
          go_wp2
          go_quiet (fail)
          go_wp2
          go_ret
          exact ⟨rfl, HC.out _ _ _ _ _ _ _⟩
        · cases t4 : (r.next == c.prev)
          · go_enter Try.func124, Try.ntmps124
            go_wp2
            go_quiet (fail)
            go_wp2
            go_ret
            exact ⟨rfl, HC.out _ _ _ _ _ _ _⟩
          · go_enter Try.func124, Try.ntmps124
            go_wp2
            go_quiet (fail)
            go_wp2
            go_ret
            exact ⟨rfl, HC.out _ _ _ _ _ _ _⟩
end Go.Proofs.Ytepkonhgkabkcaa
