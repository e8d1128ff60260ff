/- The library's slices.Sorted over maps.Keys at a map of numbers: the keys, sorted. Condition: the map's block reads as a list of pairs. -/
import Derived.Test.YtepkonhgkabkcaaJkeys
namespace Go.Proofs.Ytepkonhgkabkcaa
open Go.RowKit Go.Maps Go.Sort Go.Shelf

def keysB_ren : Go.Shelf.Ren := ⟨fun | 7 => 89 | 10 => 119 | n => n, fun | 23 => 26 | 26 => 3 | 3 => 3 | 28 => 108 | 0 => 0 | 27 => 107 | 33 => 184 | 4 => 4 | n => n, fun | n => n⟩
theorem keysB : Go.Proofs.SlLaysZI.n7 Try.prog keysB_ren := {
  mixed := by kernel_rfl
  f7 := ⟨Try.f89.name, by decide, Try.func89.trans (congrArg some (by kernel_rfl))⟩
  f10 := ⟨Try.f119.name, by decide, Try.func119.trans (congrArg some (by kernel_rfl))⟩
  t0 := Try.underlying0
  a0 := Try.isAgg0
  z0 := Try.sizeOf0
  v0 := Try.zeroValue0
  t4 := Try.underlying4
  a4 := Try.isAgg4
  z4 := Try.sizeOf4
  v4 := Try.zeroValue4
  t23 := Try.underlying26
  a23 := Try.isAgg26
  z23 := Try.sizeOf26
  v23 := Try.zeroValue26
  t26 := Try.underlying3
  a26 := Try.isAgg3
  z26 := Try.sizeOf3
  v26 := Try.zeroValue3
  t27 := Try.underlying107
  a27 := Try.isAgg107
  z27 := Try.sizeOf107
  v27 := Try.zeroValue107
  t28 := Try.underlying108
  a28 := Try.isAgg108
  z28 := Try.sizeOf108
  v28 := Try.zeroValue108
  t33 := Try.underlying184
  a33 := Try.isAgg184
  z33 := Try.sizeOf184
  v33 := Try.zeroValue184 }
theorem keysB_calls (mb : Nat) (W : World) : Calls Try.prog 89 #[.map (some mb)] W fun e w' => e = .returned (.func (.func 119) #[] #[.pointer (some ⟨W.heap.size, 0, none⟩)]) ∧ W.alloc (.cells #[.map (some mb)] 26) = w' :=
  (callsIn_wide.1 (AnyZI.keys_in keysB Fence.wide 5 trivial rfl (some mb) W)).mono fun _ _ h => ⟨h.1, h.2.symm⟩

set_option maxHeartbeats 1000000 in
theorem sortedB_calls {α : Type} {enc : α → Value} {l : List (Int × α)} {b : Nat} {w : World} (hm : MapI.MapIs Try.prog 3 enc w b l) (hlen : l.length ≤ 1000000) :
    Calls Try.prog 56 #[.func (.func 119) #[] #[.pointer (some ⟨w.heap.size, 0, none⟩)]] (w.alloc (.cells #[.map (some b)] 26)) fun e w' =>
      ∃ v, e = .returned v ∧ w'.ownsRow (w.heap.size + 1) 3 1 v l.length ((l.map Prod.fst).map (Value.int .i64)) ∧ (v = .slice none 0 0 ↔ l = []) ∧ Below (w.heap.size + 1) (w.alloc (.cells #[.map (some b)] 26)) w' := by
  refine (callsIn_wide (n := 5)).1 ?_
  have hbl := hm.lt
  have hsz : Maps.size (DataW.map (MapI.lits enc l)) = l.length := MapI.size_lits
  have hseq : SeqGives Fence.wide 2 Try.prog 119 #[.pointer (some ⟨w.heap.size, 0, none⟩)] encZ (fun ss => ss.Perm (intKeys (DataW.map (MapI.lits enc l)))) (Maps.size (DataW.map (MapI.lits enc l))) (w.alloc (.cells #[.map (some b)] 26)) :=
    AnyZI.keys_gives (ρ := keysB_ren) { keysB with } Fence.wide _ trivial rfl (by omega) w.heap.size b l.length _ _ (by simp) (by simp) (hm.kept (World.grownBy_alloc _ _ none) (by simp)).1
  refine (AnyZI.sorted_in sortedA Fence.wide 5 trivial trivial trivial trivial rfl (by omega) (sortsA _) (enters_of Try.func104 (by kernel_rfl) rfl) 119 _ trivial (enters_of Try.func119 (by kernel_rfl) rfl) _ _ (by rw [hsz]; unfold maxLen; omega) (by rw [hsz]; omega) _ hseq).mono ?_
  rintro e w' ⟨v, ss, rfl, hS, hrow, hnil, hb⟩
  have hsorted := sorted_keys hm.rises hS
  rw [World.size_alloc] at hrow hb
  rw [hsorted] at hrow
  have hlen2 : ss.length = l.length := by
    have := hS.length_eq
    simpa [intKeys, MapI.lits] using this
  rw [hlen2] at hrow
  refine ⟨v, rfl, hrow, ?_, hb⟩
  rw [hnil, ← List.length_eq_zero_iff, hlen2, List.length_eq_zero_iff]

theorem sortedB_none {α : Type} {enc : α → Value} {l : List (Int × α)} {b : Nat} {w : World} (hm : MapI.MapIs Try.prog 3 enc w b l) (hl : l = []) :
    Calls Try.prog 56 #[.func (.func 119) #[] #[.pointer (some ⟨w.heap.size, 0, none⟩)]] (w.alloc (.cells #[.map (some b)] 26)) fun e w' =>
      e = .returned (.slice none 0 0) ∧ Below (w.heap.size + 1) (w.alloc (.cells #[.map (some b)] 26)) w' :=
  (sortedB_calls hm (by rw [hl]; simp)).mono fun e w' ⟨v, he, _, hn, hb⟩ => ⟨by rw [he, hn.2 hl], hb⟩
theorem sortedB_some {α : Type} {enc : α → Value} {l : List (Int × α)} {b : Nat} {w : World} (hm : MapI.MapIs Try.prog 3 enc w b l) (hlen : l.length ≤ 1000000) (hl : 0 < l.length) :
    Calls Try.prog 56 #[.func (.func 119) #[] #[.pointer (some ⟨w.heap.size, 0, none⟩)]] (w.alloc (.cells #[.map (some b)] 26)) fun e w' =>
      ∃ g cap, e = .returned (.slice (some ⟨g, 0, none⟩) l.length cap) ∧ w'.ownsRow (w.heap.size + 1) 3 1 (.slice (some ⟨g, 0, none⟩) l.length cap) l.length ((l.map Prod.fst).map (Value.int .i64)) ∧ Below (w.heap.size + 1) (w.alloc (.cells #[.map (some b)] 26)) w' :=
  (sortedB_calls hm hlen).mono fun e w' ⟨v, he, hr, hn, hb⟩ => by
    obtain ⟨g, cap, hv, _, _⟩ := hr.form hl
    exact ⟨g, cap, by rw [he, hv], by rw [← hv]; exact hr, hb⟩
end Go.Proofs.Ytepkonhgkabkcaa
