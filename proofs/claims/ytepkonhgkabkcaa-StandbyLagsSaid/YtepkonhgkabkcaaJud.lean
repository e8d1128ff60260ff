/- Package judge: what its memory reads as, and what it does, plainly. No condition: definitions, and what keeps them. -/
import Derived.Test.YtepkonhgkabkcaaPut2
import Derived.Test.YtepkonhgkabkcaaMapI
import Derived.Laws.OwnMore
import Derived.Deep.RegionHeld3
namespace Go.Proofs.Ytepkonhgkabkcaa
open Go.RowKit Go.Maps MapI
set_option linter.unusedVariables false
set_option linter.unusedSimpArgs false

abbrev tJ : Nat := 115
abbrev tJx : Nat := 118
abbrev tRc : Nat := 30
/-! ### plainly -/
structure JTx where
  num : Int
  first : Int
  last : Int
  stand : List Rc
structure JSt where
  last : Int
  opn : List (Int × JTx)
  pages : List Pg
  begun : List (Int × Int)
  out : Option (List Pg)
def setPg (ps : List Pg) (r : Rc) : List Pg :=
  if 0 ≤ r.page then (match ps[r.page.toNat]? with
    | none => ps
    | some p => if putE p r.off r.after 0 = 0 then ps.set r.page.toNat (putP p r.off r.after 0) else ps) else ps
def standsJ (ps : List Pg) (r : Rc) : Bool :=
  if 0 ≤ r.page then (match ps[r.page.toNat]? with
    | none => false
    | some p => getE p r.off r.before.size == 0 && (getS p r.off r.before.size).toList == r.before.toList) else false
theorem setPg_length (ps : List Pg) (r : Rc) : (setPg ps r).length = ps.length := by
  unfold setPg
  split
  · split
    · rfl
    · split <;> simp
  · rfl

/-! ### memory -/
def pgCells (ps : List Pg) : List Value := ps.flatMap fun p => [.int .i64 p.place, .string p.data]
def rcCells (r : Rc) : List Value := [.int .i64 r.kind, .int .i64 r.txn, .int .i64 r.page, .int .i64 r.off, .int .i64 r.prev, .int .i64 r.next, .int .i64 r.begin_, .string r.before, .string r.after, r.txns, r.pages]
theorem pgCells_length (ps : List Pg) : (pgCells ps).length = ps.length * 2 := by
  unfold pgCells
  induction ps with
  | nil => rfl
  | cons p r ih => simp only [List.flatMap_cons, List.length_append, ih, List.length_cons, List.length_nil]; omega
theorem pgCells_get {ps : List Pg} : ∀ {i : Nat} {p : Pg}, ps[i]? = some p → (pgCells ps)[i * 2]? = some (.int .i64 p.place) ∧ (pgCells ps)[i * 2 + 1]? = some (.string p.data) := by
  induction ps with
  | nil => intro i p h; simp at h
  | cons q r ih =>
    intro i p h
    cases i with
    | zero => simp at h; subst h; simp [pgCells]
    | succ i =>
      simp at h
      have := ih h
      have e1 : (i + 1) * 2 = i * 2 + 2 := by omega
      have e2 : (i + 1) * 2 + 1 = (i * 2 + 1) + 2 := by omega
      rw [e1, show i * 2 + 2 + 1 = (i * 2 + 1) + 2 from by omega]
      simpa [pgCells] using this
theorem pgCells_set {ps : List Pg} : ∀ {i : Nat} {q : Pg}, pgCells (ps.set i q) = ((pgCells ps).set (i * 2) (.int .i64 q.place)).set (i * 2 + 1) (.string q.data) := by
  induction ps with
  | nil => intro i q; simp [pgCells]
  | cons p r ih =>
    intro i q
    cases i with
    | zero => simp [pgCells]
    | succ i =>
      have e1 : (i + 1) * 2 = i * 2 + 1 + 1 := by omega
      have e2 : i * 2 + 1 + 1 + 1 = (i * 2 + 1) + 1 + 1 := by omega
      have := @ih i q
      simp only [pgCells, List.set_cons_succ, List.flatMap_cons] at this ⊢
      rw [this, e1]
      simp

/-- A record's cells at an address. -/
def RcAt (w : World) (b o : Nat) (r : Rc) : Prop := ∀ j v, (rcCells r)[j]? = some v → w.cell? ⟨b, o + j, none⟩ = some v
theorem RcAt.cells {w : World} {b o : Nat} {r : Rc} (h : RcAt w b o r) : w.cell? ⟨b, o, none⟩ = some (.int .i64 r.kind) ∧ w.cell? ⟨b, o + 1, none⟩ = some (.int .i64 r.txn) ∧ w.cell? ⟨b, o + 2, none⟩ = some (.int .i64 r.page) ∧ w.cell? ⟨b, o + 3, none⟩ = some (.int .i64 r.off) ∧
    w.cell? ⟨b, o + 4, none⟩ = some (.int .i64 r.prev) ∧ w.cell? ⟨b, o + 5, none⟩ = some (.int .i64 r.next) ∧ w.cell? ⟨b, o + 6, none⟩ = some (.int .i64 r.begin_) ∧ w.cell? ⟨b, o + 7, none⟩ = some (.string r.before) ∧ w.cell? ⟨b, o + 8, none⟩ = some (.string r.after) ∧
    w.cell? ⟨b, o + 9, none⟩ = some r.txns ∧ w.cell? ⟨b, o + 10, none⟩ = some r.pages :=
  ⟨h 0 _ rfl, h 1 _ rfl, h 2 _ rfl, h 3 _ rfl, h 4 _ rfl, h 5 _ rfl, h 6 _ rfl, h 7 _ rfl, h 8 _ rfl, h 9 _ rfl, h 10 _ rfl⟩
theorem RcAt.of_block {w w' : World} {b o : Nat} {r : Rc} (h : RcAt w b o r) (hb : w'.heap[b]? = w.heap[b]?) : RcAt w' b o r := fun j v hj => (World.cell?_of_block (a := ⟨b, o + j, none⟩) hb).trans (h j v hj)
/-- Pages in a block's cells from an offset on. -/
def PgsIn (cs : Array Value) (o : Nat) (ps : List Pg) : Prop := ∀ i p, ps[i]? = some p → cs[o + i * 2]? = some (.int .i64 p.place) ∧ cs[o + i * 2 + 1]? = some (.string p.data)
def setCs (cs : Array Value) (o : Nat) (ps : List Pg) (r : Rc) : Array Value :=
  if 0 ≤ r.page then (match ps[r.page.toNat]? with
    | none => cs
    | some p => if putE p r.off r.after 0 = 0 then (cs.setIfInBounds (o + r.page.toNat * 2) (.int .i64 (putP p r.off r.after 0).place)).setIfInBounds (o + r.page.toNat * 2 + 1) (.string (putP p r.off r.after 0).data) else cs) else cs
theorem setCs_size (cs : Array Value) (o : Nat) (ps : List Pg) (r : Rc) : (setCs cs o ps r).size = cs.size := by
  unfold setCs
  split
  · split
    · rfl
    · split <;> simp
  · rfl
theorem PgsIn.setCs {cs : Array Value} {o : Nat} {ps : List Pg} {r : Rc} (h : PgsIn cs o ps) : PgsIn (setCs cs o ps r) o (setPg ps r) := by
  unfold Go.Proofs.Ytepkonhgkabkcaa.setCs setPg
  split
  · split
    · exact h
    · rename_i p hp
      split
      · intro i q hq
        have hlt : r.page.toNat < ps.length := (List.getElem?_eq_some_iff.1 hp).1
        obtain ⟨h1, h2⟩ := h _ _ hp
        have s1 := (Array.getElem?_eq_some_iff.1 h1).1
        have s2 := (Array.getElem?_eq_some_iff.1 h2).1
        by_cases e : i = r.page.toNat
        · subst e
          rw [List.getElem?_set_self hlt] at hq
          injection hq with hq
          subst hq
          constructor
          · rw [Array.getElem?_setIfInBounds_ne (by omega), Array.getElem?_setIfInBounds_self_of_lt s1]
          · rw [Array.getElem?_setIfInBounds_self_of_lt (by simpa using s2)]
        · rw [List.getElem?_set_ne (Ne.symm e)] at hq
          have := h _ _ hq
          constructor
          · rw [Array.getElem?_setIfInBounds_ne (by omega), Array.getElem?_setIfInBounds_ne (by omega)]; exact this.1
          · rw [Array.getElem?_setIfInBounds_ne (by omega), Array.getElem?_setIfInBounds_ne (by omega)]; exact this.2
      · exact h
  · exact h
theorem setCs_far {cs : Array Value} {o : Nat} {ps : List Pg} {r : Rc} {j : Nat} (hj : j < o ∨ o + ps.length * 2 ≤ j) : (setCs cs o ps r)[j]? = cs[j]? := by
  unfold setCs
  split
  · split
    · rfl
    · rename_i p hp
      have hlt : r.page.toNat < ps.length := (List.getElem?_eq_some_iff.1 hp).1
      split
      · rw [Array.getElem?_setIfInBounds_ne (by omega), Array.getElem?_setIfInBounds_ne (by omega)]
      · rfl
  · rfl
end Go.Proofs.Ytepkonhgkabkcaa
