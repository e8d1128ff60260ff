/- The library's slices.Sorted over maps.Keys at this translation's map: the keys, sorted. Condition: the map's block reads as a list of pairs. -/
import Derived.Shelf.SlIterI.Nil
import Derived.Shelf.SortM.Plain
import Derived.Shelf.SortM.SortNone
import Derived.Ground.GgzProg
import Derived.Ground.SlgmProg
import Derived.Test.YtohnfjincfippaaProg
import Derived.Deep.AppendLies
import Derived.Test.YtohnfjincfippaaMapI
namespace Go.Proofs.Ytohnfjincfippaa
open Go.RowKit Go.Maps Go.Sort Go.Shelf

def keysA_ren : Go.Shelf.Ren := ⟨fun | 7 => 18 | 10 => 21 | n => n, fun | 23 => 44 | 26 => 3 | 3 => 47 | 28 => 56 | 0 => 0 | 27 => 55 | 33 => 62 | 4 => 4 | n => n, fun | n => n⟩
theorem keysA : Go.Proofs.SlLaysZI.n7 Try.prog keysA_ren := {
  mixed := by kernel_rfl
  f7 := ⟨Try.f18.name, by decide, Try.func18.trans (congrArg some (by kernel_rfl))⟩
  f10 := ⟨Try.f21.name, by decide, Try.func21.trans (congrArg some (by kernel_rfl))⟩
  t0 := Try.underlying0
  a0 := Try.isAgg0
  z0 := Try.sizeOf0
  v0 := Try.zeroValue0
  t4 := Try.underlying4
  a4 := Try.isAgg4
  z4 := Try.sizeOf4
  v4 := Try.zeroValue4
  t23 := Try.underlying44
  a23 := Try.isAgg44
  z23 := Try.sizeOf44
  v23 := Try.zeroValue44
  t26 := Try.underlying3
  a26 := Try.isAgg3
  z26 := Try.sizeOf3
  v26 := Try.zeroValue3
  t27 := Try.underlying55
  a27 := Try.isAgg55
  z27 := Try.sizeOf55
  v27 := Try.zeroValue55
  t28 := Try.underlying56
  a28 := Try.isAgg56
  z28 := Try.sizeOf56
  v28 := Try.zeroValue56
  t33 := Try.underlying62
  a33 := Try.isAgg62
  z33 := Try.sizeOf62
  v33 := Try.zeroValue62 }
def sortedA_ren : Go.Shelf.Ren := ⟨fun | 6 => 17 | 8 => 19 | 9 => 20 | 11 => 22 | 13 => 24 | 12 => 23 | 23 => 34 | 24 => 35 | 14 => 25 | 15 => 26 | 16 => 27 | 17 => 28 | 18 => 29 | 19 => 30 | 20 => 31 | 21 => 32 | 22 => 33 | 25 => 36 | 26 => 37 | 27 => 38 | 28 => 39 | 29 => 40 | 30 => 41 | 31 => 42 | n => n, fun | 26 => 3 | 28 => 56 | 24 => 53 | 0 => 0 | 3 => 3 | 37 => 66 | 48 => 77 | 50 => 79 | 4 => 4 | 40 => 69 | 39 => 68 | 45 => 74 | 5 => 5 | 9 => 9 | 51 => 80 | 55 => 84 | 57 => 86 | 58 => 87 | 33 => 62 | n => n, fun | n => n⟩
theorem sortedA : Go.Proofs.SlLaysZI.n6 Try.prog sortedA_ren := {
  mixed := by kernel_rfl
  f6 := ⟨Try.f17.name, by decide, Try.func17.trans (congrArg some (by kernel_rfl))⟩
  f8 := ⟨Try.f19.name, by decide, Try.func19.trans (congrArg some (by kernel_rfl))⟩
  f11 := ⟨Try.f22.name, by decide, Try.func22.trans (congrArg some (by kernel_rfl))⟩
  t0 := Try.underlying0
  a0 := Try.isAgg0
  z0 := Try.sizeOf0
  v0 := Try.zeroValue0
  t24 := Try.underlying53
  a24 := Try.isAgg53
  z24 := Try.sizeOf53
  v24 := Try.zeroValue53
  t26 := Try.underlying3
  a26 := Try.isAgg3
  z26 := Try.sizeOf3
  v26 := Try.zeroValue3
  t28 := Try.underlying56
  a28 := Try.isAgg56
  z28 := Try.sizeOf56
  v28 := Try.zeroValue56
  i26 := by kernel_rfl }
def sortA_ren : Go.Shelf.Ren := ⟨fun | 5 => 20 | 8 => 24 | 7 => 23 | 19 => 34 | 20 => 35 | 10 => 25 | 11 => 26 | 12 => 27 | 13 => 28 | 14 => 29 | 15 => 30 | 16 => 31 | 17 => 32 | 18 => 33 | 30 => 36 | 31 => 37 | 32 => 38 | 33 => 39 | 34 => 40 | 35 => 41 | 40 => 42 | n => n, fun | 23 => 53 | 25 => 3 | 3 => 3 | 32 => 66 | 22 => 53 | 0 => 0 | 44 => 77 | 46 => 79 | 4 => 4 | 36 => 69 | 35 => 68 | 41 => 74 | 5 => 5 | 9 => 9 | 53 => 80 | 57 => 84 | 63 => 86 | 64 => 87 | n => n, fun | n => n⟩
theorem sortA : Go.Proofs.SlLaysM.n5 Try.prog sortA_ren := {
  mixed := by kernel_rfl
  f5 := ⟨Try.f20.name, by decide, Try.func20.trans (congrArg some (by kernel_rfl))⟩
  f7 := ⟨Try.f23.name, by decide, Try.func23.trans (congrArg some (by kernel_rfl))⟩
  f8 := Try.func24.trans (congrArg some (by kernel_rfl))
  f10 := ⟨Try.f25.name, by decide, Try.func25.trans (congrArg some (by kernel_rfl))⟩
  f11 := ⟨Try.f26.name, by decide, Try.func26.trans (congrArg some (by kernel_rfl))⟩
  f12 := ⟨Try.f27.name, by decide, Try.func27.trans (congrArg some (by kernel_rfl))⟩
  f13 := ⟨Try.f28.name, by decide, Try.func28.trans (congrArg some (by kernel_rfl))⟩
  f14 := ⟨Try.f29.name, by decide, Try.func29.trans (congrArg some (by kernel_rfl))⟩
  f15 := ⟨Try.f30.name, by decide, Try.func30.trans (congrArg some (by kernel_rfl))⟩
  f16 := ⟨Try.f31.name, by decide, Try.func31.trans (congrArg some (by kernel_rfl))⟩
  f17 := ⟨Try.f32.name, by decide, Try.func32.trans (congrArg some (by kernel_rfl))⟩
  f18 := ⟨Try.f33.name, by decide, Try.func33.trans (congrArg some (by kernel_rfl))⟩
  f19 := Try.func34.trans (congrArg some (by kernel_rfl))
  f20 := Try.func35.trans (congrArg some (by kernel_rfl))
  f30 := ⟨Try.f36.name, by decide, Try.func36.trans (congrArg some (by kernel_rfl))⟩
  f31 := Try.func37.trans (congrArg some (by kernel_rfl))
  f32 := Try.func38.trans (congrArg some (by kernel_rfl))
  f33 := ⟨Try.f39.name, by decide, Try.func39.trans (congrArg some (by kernel_rfl))⟩
  f34 := ⟨Try.f40.name, by decide, Try.func40.trans (congrArg some (by kernel_rfl))⟩
  f35 := ⟨Try.f41.name, by decide, Try.func41.trans (congrArg some (by kernel_rfl))⟩
  f40 := ⟨Try.f42.name, by decide, Try.func42.trans (congrArg some (by kernel_rfl))⟩
  t0 := Try.underlying0
  a0 := Try.isAgg0
  z0 := Try.sizeOf0
  v0 := Try.zeroValue0
  t3 := Try.underlying3
  a3 := Try.isAgg3
  z3 := Try.sizeOf3
  v3 := Try.zeroValue3
  t4 := Try.underlying4
  a4 := Try.isAgg4
  z4 := Try.sizeOf4
  v4 := Try.zeroValue4
  t5 := Try.underlying5
  a5 := Try.isAgg5
  z5 := Try.sizeOf5
  v5 := Try.zeroValue5
  t9 := Try.underlying9
  a9 := Try.isAgg9
  z9 := Try.sizeOf9
  v9 := Try.zeroValue9
  t22 := Try.underlying53
  a22 := Try.isAgg53
  z22 := Try.sizeOf53
  v22 := Try.zeroValue53
  t23 := Try.underlying53
  a23 := Try.isAgg53
  z23 := Try.sizeOf53
  v23 := Try.zeroValue53
  t25 := Try.underlying3
  a25 := Try.isAgg3
  z25 := Try.sizeOf3
  v25 := Try.zeroValue3
  t32 := Try.underlying66
  a32 := Try.isAgg66
  z32 := Try.sizeOf66
  v32 := Try.zeroValue66
  t35 := Try.underlying68
  a35 := Try.isAgg68
  z35 := Try.sizeOf68
  v35 := Try.zeroValue68
  t36 := Try.underlying69
  a36 := Try.isAgg69
  z36 := Try.sizeOf69
  v36 := Try.zeroValue69
  t41 := Try.underlying74
  a41 := Try.isAgg74
  z41 := Try.sizeOf74
  v41 := Try.zeroValue74
  t44 := Try.underlying77
  a44 := Try.isAgg77
  z44 := Try.sizeOf77
  v44 := Try.zeroValue77
  t46 := Try.underlying79
  a46 := Try.isAgg79
  z46 := Try.sizeOf79
  v46 := Try.zeroValue79
  t53 := Try.underlying80
  a53 := Try.isAgg80
  z53 := Try.sizeOf80
  v53 := Try.zeroValue80
  t57 := Try.underlying84
  a57 := Try.isAgg84
  z57 := Try.sizeOf84
  v57 := Try.zeroValue84
  t63 := Try.underlying86
  a63 := Try.isAgg86
  z63 := Try.sizeOf86
  v63 := Try.zeroValue86
  t64 := Try.underlying87
  a64 := Try.isAgg87
  z64 := Try.sizeOf87
  v64 := Try.zeroValue87 }
theorem sortsA (m : Nat) : AnyZI.SortsIn Try.prog sortedA_ren Fence.wide m :=
  ⟨fun blk off cap ss W hH hblk hsz => callsIn_wide.2 (AnyM.slices_Sort_int sortA blk off cap ss W hH hblk hsz),
   fun p cap W => callsIn_wide.2 (AnyM.slices_Sort_int_none sortA p cap W)⟩

theorem keys_calls (mb : Nat) (W : World) : Calls Try.prog 18 #[.map (some mb)] W fun e w' => e = .returned (.func (.func 21) #[] #[.pointer (some ⟨W.heap.size, 0, none⟩)]) ∧ W.alloc (.cells #[.map (some mb)] 44) = w' :=
  (callsIn_wide.1 (AnyZI.keys_in keysA Fence.wide 5 trivial rfl (some mb) W)).mono fun _ _ h => ⟨h.1, h.2.symm⟩

theorem sorted_keys {α : Type} {l : List (Int × α)} {enc : α → Value} {ss : List Int} (hr : MapI.Rises l) (h : ss.Perm (intKeys (DataW.map (MapI.lits enc l)))) : ss.mergeSort (fun x y => decide (x ≤ y)) = l.map Prod.fst := by
  have hk : intKeys (DataW.map (MapI.lits enc l)) = l.map Prod.fst := by simp [intKeys, MapI.lits, Go.intOf, Function.comp_def]
  rw [hk] at h
  refine List.Perm.eq_of_pairwise (le := (· ≤ ·)) (fun a b _ _ h1 h2 => Int.le_antisymm h1 h2) ?_ ?_ ((List.mergeSort_perm ss _).trans h)
  · have := List.pairwise_mergeSort (le := fun x y : Int => decide (x ≤ y)) (fun a b c h1 h2 => by simp at h1 h2 ⊢; omega) (fun a b => by simp; omega) ss
    exact this.imp fun h => by simpa using h
  · exact List.pairwise_map.2 (hr.imp fun h => Int.le_of_lt h)

set_option maxHeartbeats 1000000 in
theorem sorted_calls {α : Type} {enc : α → Value} {l : List (Int × α)} {b : Nat} {w : World} (hm : MapI.MapIs Try.prog 3 enc w b l) (hlen : l.length ≤ 1000000) :
    Calls Try.prog 17 #[.func (.func 21) #[] #[.pointer (some ⟨w.heap.size, 0, none⟩)]] (w.alloc (.cells #[.map (some b)] 44)) fun e w' =>
      ∃ v, e = .returned v ∧ w'.ownsRow (w.heap.size + 1) 3 1 v l.length ((l.map Prod.fst).map (Value.int .i64)) ∧ (v = .slice none 0 0 ↔ l = []) ∧ Below (w.heap.size + 1) (w.alloc (.cells #[.map (some b)] 44)) w' := by
  refine (callsIn_wide (n := 5)).1 ?_
  have hbl := hm.lt
  have hsz : Maps.size (DataW.map (MapI.lits enc l)) = l.length := MapI.size_lits
  have hseq : SeqGives Fence.wide 2 Try.prog 21 #[.pointer (some ⟨w.heap.size, 0, none⟩)] encZ (fun ss => ss.Perm (intKeys (DataW.map (MapI.lits enc l)))) (Maps.size (DataW.map (MapI.lits enc l))) (w.alloc (.cells #[.map (some b)] 44)) :=
    AnyZI.keys_gives (ρ := keysA_ren) { keysA with } Fence.wide _ trivial rfl (by omega) w.heap.size b l.length _ _ (by simp) (by simp) (hm.kept (World.grownBy_alloc _ _ none) (by simp)).1
  refine (AnyZI.sorted_in sortedA Fence.wide 5 trivial trivial trivial trivial rfl (by omega) (sortsA _) (enters_of Try.func20 (by kernel_rfl) rfl) 21 _ trivial (enters_of Try.func21 (by kernel_rfl) rfl) _ _ (by rw [hsz]; unfold maxLen; omega) (by rw [hsz]; omega) _ hseq).mono ?_
  rintro e w' ⟨v, ss, rfl, hS, hrow, hnil, hb⟩
  have hsorted := sorted_keys hm.rises hS
  rw [World.size_alloc] at hrow hb
  rw [hsorted] at hrow
  have hlen2 : ss.length = l.length := by
    have := hS.length_eq
    simpa [intKeys, MapI.lits] using this
  rw [hlen2] at hrow
  refine ⟨v, rfl, hrow, ?_, hb⟩
  rw [hnil, ← List.length_eq_zero_iff, hlen2, List.length_eq_zero_iff]

theorem sorted_none {α : Type} {enc : α → Value} {l : List (Int × α)} {b : Nat} {w : World} (hm : MapI.MapIs Try.prog 3 enc w b l) (hl : l = []) :
    Calls Try.prog 17 #[.func (.func 21) #[] #[.pointer (some ⟨w.heap.size, 0, none⟩)]] (w.alloc (.cells #[.map (some b)] 44)) fun e w' =>
      e = .returned (.slice none 0 0) ∧ Below (w.heap.size + 1) (w.alloc (.cells #[.map (some b)] 44)) w' :=
  (sorted_calls hm (by rw [hl]; simp)).mono fun e w' ⟨v, he, _, hn, hb⟩ => ⟨by rw [he, hn.2 hl], hb⟩
theorem sorted_some {α : Type} {enc : α → Value} {l : List (Int × α)} {b : Nat} {w : World} (hm : MapI.MapIs Try.prog 3 enc w b l) (hlen : l.length ≤ 1000000) (hl : 0 < l.length) :
    Calls Try.prog 17 #[.func (.func 21) #[] #[.pointer (some ⟨w.heap.size, 0, none⟩)]] (w.alloc (.cells #[.map (some b)] 44)) fun e w' =>
      ∃ g cap, e = .returned (.slice (some ⟨g, 0, none⟩) l.length cap) ∧ w'.ownsRow (w.heap.size + 1) 3 1 (.slice (some ⟨g, 0, none⟩) l.length cap) l.length ((l.map Prod.fst).map (Value.int .i64)) ∧ Below (w.heap.size + 1) (w.alloc (.cells #[.map (some b)] 44)) w' :=
  (sorted_calls hm hlen).mono fun e w' ⟨v, he, hr, hn, hb⟩ => by
    obtain ⟨g, cap, hv, _, _⟩ := hr.form hl
    exact ⟨g, cap, by rw [he, hv], by rw [← hv]; exact hr, hb⟩
end Go.Proofs.Ytohnfjincfippaa
