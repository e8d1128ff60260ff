/- An argument of entries, opened: it reads as a list of entries. No condition. -/
import Derived.Test.YtepkonhgkabkcaaJfew
import Derived.ProofKit
import Derived.OpenShut
import Derived.ShutString
import Derived.ChangeOld
import Derived.Deep.Slices
import Derived.Deep.Fields
import Derived.ChangeSame
namespace Go.Proofs.Ytepkonhgkabkcaa
open Go.ChangeShapes Go.WideShapes Go.ChangeAt Go.RowKit Go.Deep
set_option linter.unusedVariables false
section
variable {H : Type} {enc : TypeId × Value → H} {w : World} {base : Nat} {spare : Nat → Bool} {held : Bool}
theorem slice_shape {t e : TypeId} {fuel : Nat} {v : Value} {x : DataW H × List MemPlace} (ht : Try.prog.underlying t = some (.slice e)) (h : DataW.trod enc Try.prog w base spare held fuel t [v] = some x) : ∃ A n c, v = .slice A n c := by
  rcases open_slice ht h with ⟨h0, _⟩ | ⟨a, len, cap, m, n, D, Pl, hcs, _⟩
  · exact ⟨_, _, _, by simpa using h0⟩
  · exact ⟨_, _, _, by simpa using hcs⟩
/-- The fields of a struct whose fields are one cell each. -/
theorem one_cells {t : TypeId} {fs : Array Field} {fuel : Nat} {cs : List Value} {x : DataW H × List MemPlace} (he : Try.prog.underlying t = some (.struct fs)) (hone : oneCellFields Try.prog fs = true) (hC : Try.prog.cellsOf t = fs.size) (h : DataW.trod enc Try.prog w base spare held fuel t cs = some x) :
    cs.length = fs.size ∧ ∀ (j : Nat) (f : Field), fs[j]? = some f → ∃ (v : Value) (y : DataW H × List MemPlace) (n : Nat), cs[j]? = some v ∧ DataW.trod enc Try.prog w base spare held n f.type [v] = some y := by
  obtain ⟨ys, n', hn', hy, hlen, hyl, hf⟩ := DataW.trod_struct he h
  rw [hC] at hlen
  refine ⟨hlen, fun j f hj => ?_⟩
  obtain ⟨ho, hk⟩ := hone_of hone j f hj
  have hjl : j < fs.size := (Array.getElem?_eq_some_iff.1 hj).1
  have hv : cs[j]? = some (cs[j]'(by omega)) := List.getElem?_eq_getElem (by omega)
  have h1 := hf j f hj
  rw [ho, hk] at h1
  have hone' : (cs.drop j).take 1 = [cs[j]'(by omega)] := by rw [List.drop_eq_getElem_cons (by omega)]; rfl
  rw [hone'] at h1
  have hys : ys[j]? = some (ys[j]'(by omega)) := List.getElem?_eq_getElem (by omega)
  exact ⟨_, _, _, hv, h1.trans hys⟩
theorem rec_open {fuel : Nat} {cs : List Value} {x : DataW H × List MemPlace} (h : DataW.trod enc Try.prog w base spare held fuel 30 cs = some x) :
    ∃ r : Rc, cs = rcCells r ∧ (Lit.int .i64 r.txn).wf = true ∧ (Lit.int .i64 r.begin_).wf = true ∧ (∃ A n c, r.txns = .slice A n c) ∧ (∃ A n c, r.pages = .slice A n c) := by
  obtain ⟨hl, hg⟩ := one_cells Try.underlying30 (by kernel_rfl) (by kernel_rfl) h
  obtain ⟨v0, y0, n0, c0, t0⟩ := hg 0 _ rfl
  obtain ⟨v1, y1, n1, c1, t1⟩ := hg 1 _ rfl
  obtain ⟨v2, y2, n2, c2, t2⟩ := hg 2 _ rfl
  obtain ⟨v3, y3, n3, c3, t3⟩ := hg 3 _ rfl
  obtain ⟨v4, y4, n4, c4, t4⟩ := hg 4 _ rfl
  obtain ⟨v5, y5, n5, c5, t5⟩ := hg 5 _ rfl
  obtain ⟨v6, y6, n6, c6, t6⟩ := hg 6 _ rfl
  obtain ⟨v7, y7, n7, c7, t7⟩ := hg 7 _ rfl
  obtain ⟨v8, y8, n8, c8, t8⟩ := hg 8 _ rfl
  obtain ⟨v9, y9, n9, c9, t9⟩ := hg 9 _ rfl
  obtain ⟨v10, y10, n10, c10, t10⟩ := hg 10 _ rfl
  obtain ⟨x0, e0, _, _⟩ := DataW.trod_int Try.underlying3 t0
  obtain ⟨x1, e1, _, w1⟩ := DataW.trod_int Try.underlying3 t1
  obtain ⟨x2, e2, _, _⟩ := DataW.trod_int Try.underlying3 t2
  obtain ⟨x3, e3, _, _⟩ := DataW.trod_int Try.underlying3 t3
  obtain ⟨x4, e4, _, _⟩ := DataW.trod_int Try.underlying3 t4
  obtain ⟨x5, e5, _, _⟩ := DataW.trod_int Try.underlying3 t5
  obtain ⟨x6, e6, _, w6⟩ := DataW.trod_int Try.underlying3 t6
  obtain ⟨x7, e7, _, _⟩ := DataW.trod_string Try.underlying9 t7
  obtain ⟨x8, e8, _, _⟩ := DataW.trod_string Try.underlying9 t8
  have s9 := slice_shape Try.underlying27 t9
  have s10 := slice_shape Try.underlying28 t10
  simp only [List.cons.injEq, and_true] at e0 e1 e2 e3 e4 e5 e6 e7 e8
  subst e0 e1 e2 e3 e4 e5 e6 e7 e8
  refine ⟨⟨x0, x1, x2, x3, x4, x5, x6, x7, x8, v9, v10⟩, ?_, w1, w6, s9, s10⟩
  have hl' : cs.length = 11 := hl
  match cs, hl' with
  | [a0, a1, a2, a3, a4, a5, a6, a7, a8, a9, a10], _ =>
    simp at c0 c1 c2 c3 c4 c5 c6 c7 c8 c9 c10
    subst c0 c1 c2 c3 c4 c5 c6 c7 c8 c9 c10
    rfl
theorem en_open {fuel : Nat} {cs : List Value} {x : DataW H × List MemPlace} (h : DataW.trod enc Try.prog w base spare held fuel 32 cs = some x) : ∃ e : En, cs = .int .i64 e.1 :: rcCells e.2 ∧ EnIn e := by
  obtain ⟨y0, y1, n, -, hl, h0, h1⟩ := trod_struct2 Try.underlying32 h
  have hl' : cs.length = 12 := hl.trans (by kernel_rfl)
  have k1 : Try.prog.cellsOf 3 = 1 := by kernel_rfl
  have k2 : Try.prog.cellsOf 30 = 11 := by kernel_rfl
  have h0' : DataW.trod enc Try.prog w base spare held n 3 ((cs.drop 0).take (Try.prog.cellsOf 3)) = some y0 := h0
  have h1' : DataW.trod enc Try.prog w base spare held n 30 ((cs.drop 1).take (Try.prog.cellsOf 30)) = some y1 := h1
  rw [k1] at h0'
  rw [k2] at h1'
  obtain ⟨a, e0, _, w0⟩ := DataW.trod_int Try.underlying3 h0'
  obtain ⟨r, e1, w1, w2, s1, s2⟩ := rec_open h1'
  refine ⟨(a, r), ?_, ⟨w0, w1, w2, s1, s2⟩⟩
  cases cs with
  | nil => simp at hl'
  | cons c t =>
    simp at e0 e1 hl'
    rw [e0, ← e1, List.take_of_length_le (by omega)]
/-- A slice of entries that came in. -/
theorem ens_open {fuel : Nat} {a0 : Option Addr} {len0 cap0 : Nat} {x : DataW H × List MemPlace} (h : DataW.trod enc Try.prog w base spare held fuel 22 [.slice a0 len0 cap0] = some x) :
    ∃ (b o : Nat) (es : List En), es.length = len0 ∧ Lst w a0 b o es ∧ (∀ e ∈ es, EnIn e) ∧ len0 ≤ maxLen := by
  by_cases hz : len0 = 0
  · exact ⟨0, 0, [], by simp [hz], ⟨fun h => absurd rfl h, fun h => absurd rfl h, fun i x hx => by simp at hx⟩, by simp, by rw [hz]; exact Nat.zero_le _⟩
  rcases open_slice Try.underlying22 h with ⟨hcs, _⟩ | ⟨a, l, c, m, n, D, Pl, hcs, _, hl, hm, hmm, hx, hi⟩
  · simp at hcs; omega
  · simp at hcs
    obtain ⟨rfl, rfl, rfl⟩ := hcs
    have hml : len0 ≤ m := by rw [hmm]; split <;> omega
    have hC : Try.prog.cellsOf 32 = 12 := by kernel_rfl
    have hone : ∀ i, i < len0 → ∃ e : En, (∀ j v, (Value.int .i64 e.1 :: rcCells e.2)[j]? = some v → w.cell? (a.add (i * 12 + j)) = some v) ∧ EnIn e := by
      intro i hil
      obtain ⟨cs', hc, ht'⟩ := hi i (by omega)
      rw [hC] at hc
      obtain ⟨e, he, hin⟩ := en_open ht'
      obtain ⟨_, hcl, hat⟩ := World.cells?_some hc
      refine ⟨e, fun j v hj => ?_, hin⟩
      have hjl : j < 12 := by have := (List.getElem?_eq_some_iff.1 hj).1; simpa [rcCells] using this
      rw [← Go.Deep.add_add, hat j hjl, he]
      exact hj
    obtain ⟨b, off, spot⟩ := a
    have hspot : spot = none := by
      obtain ⟨e, c0, _⟩ := hone 0 (by omega)
      simpa [Addr.add] using World.cell?_spot (c0 0 _ rfl)
    subst hspot
    have hadd : ∀ k, (⟨b, off, none⟩ : Addr).add k = ⟨b, off + k, none⟩ := fun k => by unfold Addr.add; split <;> simp_all
    have e0 : En := (0, ⟨0, 0, 0, 0, 0, 0, 0, ⟨#[]⟩, ⟨#[]⟩, .slice none 0 0, .slice none 0 0⟩)
    obtain ⟨f, hf⟩ : ∃ f : Nat → En, ∀ i, i < len0 → (∀ j v, (Value.int .i64 (f i).1 :: rcCells (f i).2)[j]? = some v → w.cell? ((⟨b, off, none⟩ : Addr).add (i * 12 + j)) = some v) ∧ EnIn (f i) := by
      refine ⟨fun i => if h : i < len0 then (hone i h).choose else e0, fun i hil => ?_⟩
      simp only [dif_pos hil]
      exact (hone i hil).choose_spec
    have hget : ∀ i x, ((List.range len0).map f)[i]? = some x → i < len0 ∧ f i = x := fun i x hx => by
      have hil : i < len0 := by
        have := (List.getElem?_eq_some_iff.1 hx).1
        simpa using this
      exact ⟨hil, by simpa [hil] using hx⟩
    refine ⟨b, off, (List.range len0).map f, by simp, ⟨fun _ => rfl, fun _ => ?_, fun i x hx => ?_⟩, fun e he => ?_, Nat.le_trans hl hm⟩
    · have := (hf 0 (by omega)).1 0 _ rfl
      rw [hadd] at this
      exact World.block_lt_of_cell? _ _ this
    · obtain ⟨hil, rfl⟩ := hget i x hx
      have hk := (hf i hil).1
      refine ⟨?_, fun j v hj => ?_⟩
      · have := hk 0 _ rfl
        rw [hadd] at this
        exact this
      · have := hk (j + 1) v (by simpa using hj)
        rw [hadd] at this
        rw [show off + i * 12 + 1 + j = off + (i * 12 + (j + 1)) from by omega]
        exact this
    · obtain ⟨i, hi2⟩ := List.getElem?_of_mem he
      obtain ⟨hil, rfl⟩ := hget i e hi2
      exact (hf i hil).2
end
end Go.Proofs.Ytepkonhgkabkcaa
