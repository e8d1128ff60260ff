/- The open transactions, sorted by their last record, plainly and in memory. No condition. -/
import Derived.Test.YtepkonhgkabkcaaSb6
import Derived.Shelf.SlSortCmp.Kit1
import Derived.Sort.OwnSorted
namespace Go.Proofs.Ytepkonhgkabkcaa
open Go.RowKit Go.Maps MapI Go.Sort Go.Shelf
set_option linter.unusedVariables false
set_option linter.unusedSimpArgs false

def ordK (l : List (Int × Int)) (keys : List Int) : List Int := keys.mergeSort (fun a b => decide (lastOf l b ≤ lastOf l a))
theorem cmpI_neg (a b : Int) : cmpI a b < 0 ↔ a < b := by
  unfold cmpI
  split
  · simp_all
  · split <;> simp_all
theorem sortW_block {α : Type} [Inhabited α] (enc : α → Value) (w : World) (g m : Nat) (dk : Array α) (os : Array Obj) {k : Nat} (hk : k < w.heap.size) (hne : k ≠ g) : (sortWorld enc w g 0 m dk os).heap[k]? = w.heap[k]? := by
  unfold sortWorld
  rw [heap_grow_old _ _ (by simpa using hk)]
  simp [putRow, mapBlock, Sort.ahead, Array.getElem?_modify, Ne.symm hne]
theorem sortW_row {α : Type} [Inhabited α] {enc : α → Value} {w : World} {g m : Nat} {os : Array Obj} {cur : Array Value} {e : TypeId} {fr : Nat × Nat} (d : Array α) (hb : w.heap[g]? = some (.cells cur e fr)) :
    (sortWorld enc w g 0 m d os).heap[g]? = some (.cells (putCells enc 0 d cur) e fr) := by
  have hg : g < w.heap.size := (Array.getElem?_eq_some_iff.1 hb).1
  unfold sortWorld
  rw [heap_grow_old _ _ (by simpa using hg)]
  simp [putRow, mapBlock, Sort.ahead, Array.getElem?_modify, hb, onCells]
theorem take_putE {α : Type} [Inhabited α] (enc : α → Value) (cur : Array Value) (ts : List α) (h : ts.length ≤ cur.size) : (putCells enc 0 ts.toArray cur).toList.take ts.length = ts.map enc := by
  apply List.ext_getElem?
  intro j
  by_cases hj : j < ts.length
  · rw [List.getElem?_take_of_lt hj, Array.getElem?_toList]
    simp [putCells, hj, show j < cur.size by omega]
  · rw [List.getElem?_take_eq_none (by omega), List.getElem?_eq_none (by simp; omega)]
theorem sortW_grown {α : Type} [Inhabited α] (enc : α → Value) (w : World) (g m B : Nat) (dk : Array α) (os : Array Obj) (hg : B ≤ g) (hgs : g < w.heap.size) : Below B w (sortWorld enc w g 0 m dk os) := by
  refine ⟨rfl, rfl, rfl, ?_, ?_⟩
  · unfold sortWorld; simp
  · intro k hk
    exact sortW_block enc w g m dk os (by omega) (by omega)
abbrev KeyIn (keys : List Int) := { k : Int // k ∈ keys }
def encKey (keys : List Int) (k : KeyIn keys) : Value := .int .i64 k.1
def cfKey (l : List (Int × Int)) (keys : List Int) (x y : KeyIn keys) : Int := cmpI (lastOf l y.1) (lastOf l x.1)
theorem swoKey (l : List (Int × Int)) (keys : List Int) : SWO (ltOf (cfKey l keys)) := by
  constructor
  · intro x; simp [ltOf, cfKey, cmpI_neg]
  · intro x y z; simp only [ltOf, cfKey, cmpI_neg, decide_eq_true_eq]; omega
  · intro x y z; simp only [ltOf, cfKey, cmpI_neg, decide_eq_false_iff_not]; omega
theorem mergeKey (l : List (Int × Int)) (keys : List Int) : (keys.attach.mergeSort fun x y => !(ltOf (cfKey l keys)) y x).map Subtype.val = ordK l keys := by
  unfold ordK
  rw [List.map_mergeSort (s := fun a b => decide (lastOf l b ≤ lastOf l a))]
  · simp
  · intro a _ b _
    simp only [ltOf, cfKey, cmpI_neg]
    by_cases h : lastOf l b.1 ≤ lastOf l a.1
    · simp [h]
    · simp [h]; omega
/-- What the library says of the sort at one cell each. -/
def SortSays (fn g : Nat) (cb : Array Value) : Prop := ∀ {α : Type} [Inhabited α] (enc : α → Value) (h1 : OneCell enc) (cf : α → α → Int) (hO : SWO (ltOf cf)) (blk off cap : Nat) (d : Array α) (w : World)
    (hcmp : CmpLays1 Try.prog g cb enc cf blk off d.size w) (hH : Holds enc w blk off d) (hblk : blk < w.heap.size) (hsz : d.size < 4611686018427387904) (hT : ∀ x y, (ltOf cf) x y = false → (ltOf cf) y x = false → x = y),
    Calls Try.prog fn #[.slice (some ⟨blk, off, none⟩) d.size cap, .func (.func g) #[] cb] w fun e w' =>
      e = .returned (.tuple #[]) ∧ ∃ n os, w' = sortWorld enc w blk off n (d.toList.mergeSort fun x y => !(ltOf cf) y x).toArray os
theorem sortK_some {fn bx sb mb : Nat} (HS : SortSays fn 93 #[.pointer (some ⟨bx, 0, none⟩)]) {w : World} {x0 x1 : Value} {l : List (Int × Int)} {t1 t2 : Nat} (hb : w.heap[bx]? = some (.cells #[.pointer (some ⟨sb, 0, none⟩)] t1 (0, 0))) (hs : w.heap[sb]? = some (.cells #[x0, x1, .map (some mb)] t2 (0, 0))) (hm : MapIs Try.prog 3 encN w mb l)
    {B : Nat} {v : Value} {keys : List Int} (hk : ∀ k ∈ keys, (Lit.int .i64 k).wf = true) (hlen : keys.length ≤ 1000000) (hpos : 0 < keys.length) (hrow : w.ownsRow B 3 1 v keys.length (keys.map (.int .i64))) (hd : ∀ a ∈ keys, ∀ b ∈ keys, lastOf l a = lastOf l b → a = b) (hB : bx < B ∧ sb < B ∧ mb < B) :
    Calls Try.prog fn #[v, .func (.func 93) #[] #[.pointer (some ⟨bx, 0, none⟩)]] w fun e w' => e = .returned (.tuple #[]) ∧ w'.ownsRow B 3 1 v keys.length ((ordK l keys).map (.int .i64)) ∧ Below B w w' := by
  obtain ⟨-, ⟨rfl, h0⟩ | ⟨g, cap, cur, rfl, hg, hblk, hn, hcap, hsz, htk⟩⟩ := id hrow
  · omega
  obtain ⟨k0, hk0⟩ := List.exists_mem_of_length_pos hpos
  haveI : Inhabited (KeyIn keys) := ⟨⟨k0, hk0⟩⟩
  have hlg := lt_of_block hblk
  have hl1 := lt_of_block hb
  have hl2 := lt_of_block hs
  have hl3 := hm.lt
  have hds : keys.attach.toArray.size = keys.length := by simp
  have hH : Holds (encKey keys) w g 0 keys.attach.toArray := by
    intro j hj
    have hj' : j < keys.length := by simpa using hj
    refine ⟨?_, ?_⟩
    · have h1 := hrow.cellAt j (by omega)
      rw [Nat.zero_add, h1]
      simp [hj', encKey]
    · rw [Nat.zero_add]; exact hrow.frozenAt j
  have H := HS (encKey keys) (fun x => rfl) (cfKey l keys) (swoKey l keys) g 0 cap keys.attach.toArray w ?_ hH hlg (by rw [hds]; omega) ?_
  · rw [hds] at H
    refine H.mono ?_
    rintro e w' ⟨rfl, n, os, rfl⟩
    have hM := mergeKey l keys
    obtain ⟨ts, hts⟩ : ∃ ts, ts = (keys.attach.mergeSort fun x y => !(ltOf (cfKey l keys)) y x) := ⟨_, rfl⟩
    have htl : ts.length = keys.length := by rw [hts]; simp
    rw [← hts] at hM
    have hts' : (keys.attach.toArray.toList.mergeSort fun x y => !(ltOf (cfKey l keys)) y x) = ts := by rw [hts]
    rw [hts']
    refine ⟨rfl, ⟨by rw [← hM]; simp [htl], .inr ⟨g, cap, _, rfl, hg, sortW_row _ hblk, hn, hcap, by simp [putCells, hsz], ?_⟩⟩, sortW_grown _ _ _ _ _ _ _ hg hlg⟩
    rw [Nat.mul_one, ← htl, take_putE _ _ _ (by omega), ← hM]
    simp [encKey, Function.comp_def]
  · apply CmpReads.lays
    intro m os dk hdk x y
    have e1 := fun k (h : k < w.heap.size) (hne : k ≠ g) => sortW_block (encKey keys) w g m dk os h hne
    exact promote1_calls ((e1 _ hl1 (by omega)).trans hb) ((e1 _ hl2 (by omega)).trans hs) (hm.of_block (e1 _ hl3 (by omega))) ⟨x.1, hk _ x.2⟩ ⟨y.1, hk _ y.2⟩
  · intro x y h1 h2
    simp only [ltOf, cfKey, cmpI_neg, decide_eq_false_iff_not] at h1 h2
    exact Subtype.ext (hd _ x.2 _ y.2 (by omega))
end Go.Proofs.Ytepkonhgkabkcaa
