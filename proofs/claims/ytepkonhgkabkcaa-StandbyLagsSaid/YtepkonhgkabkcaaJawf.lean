/- careenlaw17: awake. No condition. -/
import Derived.Test.YtepkonhgkabkcaaJcom
namespace Go.Proofs.Ytepkonhgkabkcaa
open Go.RowKit Go.Maps MapI
set_option linter.unusedVariables false
set_option linter.unusedSimpArgs false

def xU : En := (128, ⟨1, 1, 0, 0, 0, 0, 0, ⟨#[0]⟩, ⟨#[97]⟩, .slice none 0 0, .slice none 0 0⟩)
def xC : En := (160, ⟨3, 1, 0, 0, 0, 0, 0, ⟨#[]⟩, ⟨#[]⟩, .slice none 0 0, .slice none 0 0⟩)
def xD : En := (160, ⟨3, 1, 0, 0, 128, 0, 0, ⟨#[]⟩, ⟨#[]⟩, .slice none 0 0, .slice none 0 0⟩)
theorem okU : EnOk xU := ⟨by decide, by decide, by decide, by decide, by decide, ⟨_, _, _, rfl⟩, ⟨_, _, _, rfl⟩⟩
theorem okC : EnOk xC := ⟨by decide, by decide, by decide, by decide, by decide, ⟨_, _, _, rfl⟩, ⟨_, _, _, rfl⟩⟩
theorem okD : EnOk xD := ⟨by decide, by decide, by decide, by decide, by decide, ⟨_, _, _, rfl⟩, ⟨_, _, _, rfl⟩⟩
theorem okUC : ∀ x ∈ [xU, xC], EnOk x := by intro x hx; simp at hx; rcases hx with rfl | rfl; exact okU; exact okC
theorem okUD : ∀ x ∈ [xU, xD], EnOk x := by intro x hx; simp at hx; rcases hx with rfl | rfl; exact okU; exact okD
theorem ok1 : ∀ x ∈ [xU], EnOk x := by intro x hx; simp at hx; subst hx; exact okU
theorem flt_uc : (fltJ st0 [xU, xC]).length = 1 := by kernel_rfl
theorem flt_ud : (fltJ st0 [xU, xD]).length = 0 := by kernel_rfl
theorem com_ud : comJ [xU, xD] = [1] := by kernel_rfl
theorem opn_u : (runJ st0 [xU]).opn.length = 1 ∧ rowsJ (runJ st0 [xU]).opn = [.int .i64 1, .int .i64 128, .int .i64 128] := ⟨by kernel_rfl, by kernel_rfl⟩
theorem pg_ud : (runJ stO [xU, xD]).out = some [⟨0, splice zeros 0 ⟨#[97]⟩⟩] := by kernel_rfl
theorem enCells_get {es : List En} : ∀ {i : Nat} {x : En}, es[i]? = some x → ∀ j u, (Value.int .i64 x.1 :: rcCells x.2)[j]? = some u → (enCells es)[i * 12 + j]? = some u := by
  induction es with
  | nil => intro i r h; simp at h
  | cons q t ih =>
    intro i r h j u hu
    have hj : j < 12 := by have := (List.getElem?_eq_some_iff.1 hu).1; simpa [rcCells] using this
    have hq : (Value.int .i64 q.1 :: rcCells q.2).length = 12 := by simp [rcCells]
    unfold enCells
    rw [List.flatMap_cons]
    cases i with
    | zero =>
      simp at h; subst h
      rw [List.getElem?_append_left (by omega)]
      simpa using hu
    | succ i =>
      simp at h
      rw [List.getElem?_append_right (by omega), hq, show (i + 1) * 12 + j - 12 = i * 12 + j from by omega]
      exact ih h j u hu
theorem Lst.lit {w : World} {b : Nat} {es : List En} {cs : Array Value} {t : Nat} (h : w.heap[b]? = some (.cells cs t (0, 0))) (hc : cs = (enCells es).toArray) : Lst w (some ⟨b, 0, none⟩) b 0 es := by
  subst hc
  have key : ∀ i x, es[i]? = some x → ∀ j u, (Value.int .i64 x.1 :: rcCells x.2)[j]? = some u → w.cell? ⟨b, 0 + i * 12 + j, none⟩ = some u := fun i x hx j u hu => by
    rw [cell_of_block h, Nat.zero_add]
    have := enCells_get hx j u hu
    simpa using this
  refine ⟨fun _ => rfl, fun _ => lt_of_block h, fun i x hx => ⟨key i x hx 0 _ rfl, fun j u hu => ?_⟩⟩
  have := key i x hx (j + 1) u (by simpa using hu)
  rw [show 0 + i * 12 + 1 + j = 0 + i * 12 + (j + 1) from by omega]
  exact this
theorem last_block (W : World) (o : Obj) (b : Nat) (hb : b = W.heap.size) : (W.alloc o).heap[b]? = some o := by subst hb; exact heap_alloc_new _ _
theorem lit12 {w : World} {b : Nat} {t : Nat} {v0 v1 v2 v3 v4 v5 v6 v7 v8 v9 v10 v11 : Value} (h : w.heap[b]? = some (.cells #[v0, v1, v2, v3, v4, v5, v6, v7, v8, v9, v10, v11] t (0, 0))) :
    w.cell? ⟨b, 0, none⟩ = some v0 ∧ w.cell? ⟨b, 1, none⟩ = some v1 ∧ w.cell? ⟨b, 2, none⟩ = some v2 ∧ w.cell? ⟨b, 3, none⟩ = some v3 ∧ w.cell? ⟨b, 4, none⟩ = some v4 ∧ w.cell? ⟨b, 5, none⟩ = some v5 ∧ w.cell? ⟨b, 6, none⟩ = some v6 ∧ w.cell? ⟨b, 7, none⟩ = some v7 ∧ w.cell? ⟨b, 8, none⟩ = some v8 ∧ w.cell? ⟨b, 9, none⟩ = some v9 ∧ w.cell? ⟨b, 10, none⟩ = some v10 ∧ w.cell? ⟨b, 11, none⟩ = some v11 :=
  ⟨cell_of_block h 0, cell_of_block h 1, cell_of_block h 2, cell_of_block h 3, cell_of_block h 4, cell_of_block h 5, cell_of_block h 6, cell_of_block h 7, cell_of_block h 8, cell_of_block h 9, cell_of_block h 10, cell_of_block h 11⟩
end Go.Proofs.Ytepkonhgkabkcaa
