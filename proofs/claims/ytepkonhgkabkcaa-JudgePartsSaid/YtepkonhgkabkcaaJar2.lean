/- An argument of entries, opened further: its length is within its capacity, and the records' own rows are there. No condition. -/
import Derived.Test.YtepkonhgkabkcaaJarg
import Derived.Test.YtepkonhgkabkcaaJsm
namespace Go.Proofs.Ytepkonhgkabkcaa
open Go.ChangeShapes Go.WideShapes Go.ChangeAt Go.RowKit Go.Deep
set_option linter.unusedVariables false
section
variable {H : Type} {enc : TypeId × Value → H} {w : World} {base : Nat} {spare : Nat → Bool} {held : Bool}
theorem slice_cap {t e : TypeId} {fuel : Nat} {a0 : Option Addr} {len0 cap0 : Nat} {x : DataW H × List MemPlace} (ht : Try.prog.underlying t = some (.slice e)) (h : DataW.trod enc Try.prog w base spare held fuel t [.slice a0 len0 cap0] = some x) : len0 ≤ cap0 ∧ cap0 ≤ maxLen := by
  rcases open_slice ht h with ⟨hcs, _⟩ | ⟨a, l, c, m, n, D, Pl, hcs, _, hl, hm, hmm, hx, hi⟩
  · simp at hcs; obtain ⟨_, h1, h2⟩ := hcs; rw [h1, h2]; exact ⟨Nat.le_refl _, Nat.zero_le _⟩
  · simp at hcs
    obtain ⟨rfl, rfl, rfl⟩ := hcs
    exact ⟨hl, hm⟩
theorem slice_none {t e : TypeId} {fuel : Nat} {len0 cap0 : Nat} {x : DataW H × List MemPlace} (ht : Try.prog.underlying t = some (.slice e)) (h : DataW.trod enc Try.prog w base spare held fuel t [.slice none len0 cap0] = some x) : len0 = 0 ∧ cap0 = 0 := by
  rcases open_slice ht h with ⟨hcs, _⟩ | ⟨a, l, c, m, n, D, Pl, hcs, _, hl, hm, hmm, hx, hi⟩
  · simp at hcs; exact hcs
  · simp at hcs
/-- A slice of structs of k numbers. -/
theorem rdw_open {t e : TypeId} {fuel : Nat} {v : Value} {k : Nat} {fs : Array Field} {x : DataW H × List MemPlace} (ht : Try.prog.underlying t = some (.slice e)) (he : Try.prog.underlying e = some (.struct fs)) (hone : oneCellFields Try.prog fs = true) (hC : Try.prog.cellsOf e = fs.size) (hk : fs.size = k)
    (hint : ∀ (j : Nat) (f : Field), fs[j]? = some f → f.type = 3) (hpos : 0 < k) (h : DataW.trod enc Try.prog w base spare held fuel t [v] = some x) : Rdw w v k := by
  intro A n0 c hv
  subst hv
  subst hk
  rcases open_slice ht h with ⟨hcs, _⟩ | ⟨a, l, c, m, n, D, Pl, hcs, _, hl, hm, hmm, hx, hi⟩
  · simp at hcs; rw [hcs.2.1]; exact ⟨by decide, fun i hi => absurd hi (Nat.not_lt_zero i)⟩
  · simp at hcs
    obtain ⟨rfl, rfl, rfl⟩ := hcs
    have hml : n0 ≤ m := by rw [hmm]; split <;> omega
    have hval : ∀ i, i < n0 → ∀ j, j < fs.size → ∃ y : Int, w.cell? ((a.add (i * fs.size)).add j) = some (.int .i64 y) := fun i hin j hj => by
      obtain ⟨cs', hc, ht'⟩ := hi i (by omega)
      rw [hC] at hc
      obtain ⟨hl', hg⟩ := one_cells he hone hC ht'
      obtain ⟨_, hcl, hat⟩ := World.cells?_some hc
      have hf : fs[j]? = some (fs[j]'hj) := Array.getElem?_eq_getElem hj
      obtain ⟨v1, y1, n1, c1, t1⟩ := hg j _ hf
      rw [hint j _ hf] at t1
      obtain ⟨z, e1, _, _⟩ := DataW.trod_int Try.underlying3 t1
      simp only [List.cons.injEq, and_true] at e1
      subst e1
      exact ⟨z, (hat j hj).trans c1⟩
    refine ⟨by unfold maxLen at hm; omega, fun i hin => ?_⟩
    obtain ⟨b, off, spot⟩ := a
    have hspot : spot = none := by
      obtain ⟨y, hy⟩ := hval 0 (by omega) 0 hpos
      simpa [Addr.add] using World.cell?_spot hy
    subst hspot
    have hadd : ∀ b k o, (⟨b, k, none⟩ : Addr).add o = ⟨b, k + o, none⟩ := fun b k o => by unfold Addr.add; split <;> simp_all
    have key : ∀ j, j < fs.size → ∃ y : Int, w.cell? ⟨b, off + i * fs.size + j, none⟩ = some (.int .i64 y) := fun j hj => by
      obtain ⟨y, hy⟩ := hval i hin j hj
      rw [hadd, hadd] at hy
      exact ⟨y, hy⟩
    refine ⟨b, off, rfl, ?_, (List.range fs.size).map (fun j => if hj : j < fs.size then (key j hj).choose else 0), by simp, fun j x hj => ?_⟩
    · obtain ⟨y, hy⟩ := key 0 hpos
      exact World.block_lt_of_cell? _ _ hy
    · have hjl : j < fs.size := by simpa using (List.getElem?_eq_some_iff.1 hj).1
      rw [List.getElem?_map, List.getElem?_range hjl] at hj
      simp only [Option.map_some, Option.some.injEq, dif_pos hjl] at hj
      rw [← hj]
      exact (key j hjl).choose_spec
theorem rec_nst {fuel : Nat} {r : Rc} {x : DataW H × List MemPlace} (h : DataW.trod enc Try.prog w base spare held fuel 30 (rcCells r) = some x) : Rdw w r.txns 3 ∧ Rdw w r.pages 2 := by
  obtain ⟨hl, hg⟩ := one_cells Try.underlying30 (by kernel_rfl) (by kernel_rfl) h
  obtain ⟨v9, y9, n9, c9, t9⟩ := hg 9 _ rfl
  obtain ⟨v10, y10, n10, c10, t10⟩ := hg 10 _ rfl
  have e9 : r.txns = v9 := by simpa [rcCells] using c9
  have e10 : r.pages = v10 := by simpa [rcCells] using c10
  subst e9 e10
  refine ⟨rdw_open Try.underlying27 Try.underlying38 (by kernel_rfl) (by kernel_rfl) rfl ?_ (by decide) t9, rdw_open Try.underlying28 Try.underlying182 (by kernel_rfl) (by kernel_rfl) rfl ?_ (by decide) t10⟩
  · intro j f hj
    match j, hj with
    | 0, hj => simp at hj; subst hj; rfl
    | 1, hj => simp at hj; subst hj; rfl
    | 2, hj => simp at hj; subst hj; rfl
    | j + 3, hj => simp at hj
  · intro j f hj
    match j, hj with
    | 0, hj => simp at hj; subst hj; rfl
    | 1, hj => simp at hj; subst hj; rfl
    | j + 2, hj => simp at hj
theorem ens_nst {fuel : Nat} {a0 : Option Addr} {len0 cap0 b o : Nat} {es : List En} {x : DataW H × List MemPlace} (h : DataW.trod enc Try.prog w base spare held fuel 22 [.slice a0 len0 cap0] = some x) (hL : Lst w a0 b o es) (hlen : es.length = len0) : ∀ e ∈ es, Nst w e := by
  intro e he
  obtain ⟨i, hi2⟩ := List.getElem?_of_mem he
  have hil : i < es.length := (List.getElem?_eq_some_iff.1 hi2).1
  have hA := hL.addr (Lst.ne hil)
  subst hA
  rcases open_slice Try.underlying22 h with ⟨hcs, _⟩ | ⟨a, l, c, m, n, D, Pl, hcs, _, hl, hm, hmm, hx, hi⟩
  · simp at hcs
  · simp at hcs
    obtain ⟨rfl, rfl, rfl⟩ := hcs
    have hml : len0 ≤ m := by rw [hmm]; split <;> omega
    have hC : Try.prog.cellsOf 32 = 12 := by kernel_rfl
    obtain ⟨cs', hc, ht'⟩ := hi i (by omega)
    rw [hC] at hc
    obtain ⟨e2, he2, _⟩ := en_open ht'
    obtain ⟨_, hcl, hat⟩ := World.cells?_some hc
    have hadd1 : ∀ b k o, (⟨b, k, none⟩ : Addr).add o = ⟨b, k + o, none⟩ := fun b k o => by unfold Addr.add; split <;> simp_all
    have hadd : ∀ k j, ((⟨b, o, none⟩ : Addr).add k).add j = ⟨b, o + k + j, none⟩ := fun k j => by rw [hadd1, hadd1]
    have hEnt := hL.at_ i e hi2
    have hcells : ∀ j v, (rcCells e.2)[j]? = some v → (rcCells e2.2)[j]? = some v := fun j v hj => by
      have hj11 : j < 11 := by have := (List.getElem?_eq_some_iff.1 hj).1; simpa [rcCells] using this
      have h1 := hat (j + 1) (by omega)
      rw [hadd, he2] at h1
      have h2 := hEnt.2 j v hj
      rw [show o + i * 12 + 1 + j = o + i * 12 + (j + 1) from by omega] at h2
      rw [h2] at h1
      simpa using h1.symm
    obtain ⟨y0, y1, n1, -, hl2, h0, h1⟩ := trod_struct2 Try.underlying32 ht'
    have k1 : Try.prog.cellsOf 3 = 1 := by kernel_rfl
    have k2 : Try.prog.cellsOf 30 = 11 := by kernel_rfl
    have h1' : DataW.trod enc Try.prog w base spare held n1 30 ((cs'.drop 1).take (Try.prog.cellsOf 30)) = some y1 := h1
    rw [k2, he2] at h1'
    have hdr : (List.drop 1 (Value.int .i64 e2.1 :: rcCells e2.2)).take 11 = rcCells e2.2 := by rw [List.drop_succ_cons, List.drop_zero, List.take_of_length_le (by simp [rcCells])]
    rw [hdr] at h1'
    obtain ⟨r1, r2⟩ := rec_nst h1'
    have e9 : e2.2.txns = e.2.txns := by have := hcells 9 _ rfl; simpa [rcCells] using this
    have e10 : e2.2.pages = e.2.pages := by have := hcells 10 _ rfl; simpa [rcCells] using this
    exact ⟨e9 ▸ r1, e10 ▸ r2⟩
end
end Go.Proofs.Ytepkonhgkabkcaa
