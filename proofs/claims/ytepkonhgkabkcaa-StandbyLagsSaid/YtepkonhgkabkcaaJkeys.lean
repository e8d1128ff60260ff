/- The library's slices.Sorted over maps.Keys at this translation's map: the keys, sorted. Condition: the map's block reads as a list of pairs. -/
import Derived.Shelf.SlIterI.Nil
import Derived.Shelf.SortM.Plain
import Derived.Shelf.SortM.SortNone
import Derived.Ground.GgzProg
import Derived.Ground.SlgmProg
import Derived.Test.YtepkonhgkabkcaaProg
import Derived.Deep.AppendLies
import Derived.Test.YtepkonhgkabkcaaMapI
namespace Go.Proofs.Ytepkonhgkabkcaa
open Go.RowKit Go.Maps Go.Sort Go.Shelf

def keysA_ren : Go.Shelf.Ren := ⟨fun | 7 => 57 | 10 => 105 | n => n, fun | 23 => 110 | 26 => 3 | 3 => 111 | 28 => 108 | 0 => 0 | 27 => 107 | 33 => 184 | 4 => 4 | n => n, fun | n => n⟩
theorem keysA : Go.Proofs.SlLaysZI.n7 Try.prog keysA_ren := {
  mixed := by kernel_rfl
  f7 := ⟨Try.f57.name, by decide, Try.func57.trans (congrArg some (by kernel_rfl))⟩
  f10 := ⟨Try.f105.name, by decide, Try.func105.trans (congrArg some (by kernel_rfl))⟩
  t0 := Try.underlying0
  a0 := Try.isAgg0
  z0 := Try.sizeOf0
  v0 := Try.zeroValue0
  t4 := Try.underlying4
  a4 := Try.isAgg4
  z4 := Try.sizeOf4
  v4 := Try.zeroValue4
  t23 := Try.underlying110
  a23 := Try.isAgg110
  z23 := Try.sizeOf110
  v23 := Try.zeroValue110
  t26 := Try.underlying3
  a26 := Try.isAgg3
  z26 := Try.sizeOf3
  v26 := Try.zeroValue3
  t27 := Try.underlying107
  a27 := Try.isAgg107
  z27 := Try.sizeOf107
  v27 := Try.zeroValue107
  t28 := Try.underlying108
  a28 := Try.isAgg108
  z28 := Try.sizeOf108
  v28 := Try.zeroValue108
  t33 := Try.underlying184
  a33 := Try.isAgg184
  z33 := Try.sizeOf184
  v33 := Try.zeroValue184 }
def sortedA_ren : Go.Shelf.Ren := ⟨fun | 6 => 56 | 8 => 103 | 9 => 104 | 11 => 125 | 13 => 121 | 12 => 126 | 23 => 148 | 24 => 149 | 14 => 151 | 15 => 152 | 16 => 153 | 17 => 154 | 18 => 155 | 19 => 156 | 20 => 157 | 21 => 158 | 22 => 159 | 25 => 169 | 26 => 165 | 27 => 166 | 28 => 170 | 29 => 171 | 30 => 108 | 31 => 174 | n => n, fun | 26 => 3 | 28 => 108 | 24 => 83 | 0 => 0 | 3 => 3 | 37 => 33 | 48 => 129 | 50 => 229 | 4 => 4 | 40 => 234 | 39 => 233 | 45 => 219 | 5 => 5 | 9 => 9 | 51 => 251 | 55 => 196 | 57 => 258 | 58 => 80 | 33 => 184 | n => n, fun | n => n⟩
theorem sortedA : Go.Proofs.SlLaysZI.n6 Try.prog sortedA_ren := {
  mixed := by kernel_rfl
  f6 := ⟨Try.f56.name, by decide, Try.func56.trans (congrArg some (by kernel_rfl))⟩
  f8 := ⟨Try.f103.name, by decide, Try.func103.trans (congrArg some (by kernel_rfl))⟩
  f11 := ⟨Try.f125.name, by decide, Try.func125.trans (congrArg some (by kernel_rfl))⟩
  t0 := Try.underlying0
  a0 := Try.isAgg0
  z0 := Try.sizeOf0
  v0 := Try.zeroValue0
  t24 := Try.underlying83
  a24 := Try.isAgg83
  z24 := Try.sizeOf83
  v24 := Try.zeroValue83
  t26 := Try.underlying3
  a26 := Try.isAgg3
  z26 := Try.sizeOf3
  v26 := Try.zeroValue3
  t28 := Try.underlying108
  a28 := Try.isAgg108
  z28 := Try.sizeOf108
  v28 := Try.zeroValue108
  i26 := by kernel_rfl }
def sortA_ren : Go.Shelf.Ren := ⟨fun | 5 => 104 | 8 => 121 | 7 => 126 | 19 => 148 | 20 => 149 | 10 => 151 | 11 => 152 | 12 => 153 | 13 => 154 | 14 => 155 | 15 => 156 | 16 => 157 | 17 => 158 | 18 => 159 | 30 => 169 | 31 => 165 | 32 => 166 | 33 => 170 | 34 => 171 | 35 => 108 | 40 => 174 | n => n, fun | 23 => 83 | 25 => 3 | 3 => 3 | 32 => 33 | 22 => 83 | 0 => 0 | 44 => 129 | 46 => 229 | 4 => 4 | 36 => 234 | 35 => 233 | 41 => 219 | 5 => 5 | 9 => 9 | 53 => 251 | 57 => 196 | 63 => 258 | 64 => 80 | n => n, fun | n => n⟩
theorem sortA : Go.Proofs.SlLaysM.n5 Try.prog sortA_ren := {
  mixed := by kernel_rfl
  f5 := ⟨Try.f104.name, by decide, Try.func104.trans (congrArg some (by kernel_rfl))⟩
  f7 := ⟨Try.f126.name, by decide, Try.func126.trans (congrArg some (by kernel_rfl))⟩
  f8 := Try.func121.trans (congrArg some (by kernel_rfl))
  f10 := ⟨Try.f151.name, by decide, Try.func151.trans (congrArg some (by kernel_rfl))⟩
  f11 := ⟨Try.f152.name, by decide, Try.func152.trans (congrArg some (by kernel_rfl))⟩
  f12 := ⟨Try.f153.name, by decide, Try.func153.trans (congrArg some (by kernel_rfl))⟩
  f13 := ⟨Try.f154.name, by decide, Try.func154.trans (congrArg some (by kernel_rfl))⟩
  f14 := ⟨Try.f155.name, by decide, Try.func155.trans (congrArg some (by kernel_rfl))⟩
  f15 := ⟨Try.f156.name, by decide, Try.func156.trans (congrArg some (by kernel_rfl))⟩
  f16 := ⟨Try.f157.name, by decide, Try.func157.trans (congrArg some (by kernel_rfl))⟩
  f17 := ⟨Try.f158.name, by decide, Try.func158.trans (congrArg some (by kernel_rfl))⟩
  f18 := ⟨Try.f159.name, by decide, Try.func159.trans (congrArg some (by kernel_rfl))⟩
  f19 := Try.func148.trans (congrArg some (by kernel_rfl))
  f20 := Try.func149.trans (congrArg some (by kernel_rfl))
  f30 := ⟨Try.f169.name, by decide, Try.func169.trans (congrArg some (by kernel_rfl))⟩
  f31 := Try.func165.trans (congrArg some (by kernel_rfl))
  f32 := Try.func166.trans (congrArg some (by kernel_rfl))
  f33 := ⟨Try.f170.name, by decide, Try.func170.trans (congrArg some (by kernel_rfl))⟩
  f34 := ⟨Try.f171.name, by decide, Try.func171.trans (congrArg some (by kernel_rfl))⟩
  f35 := ⟨Try.f108.name, by decide, Try.func108.trans (congrArg some (by kernel_rfl))⟩
  f40 := ⟨Try.f174.name, by decide, Try.func174.trans (congrArg some (by kernel_rfl))⟩
  t0 := Try.underlying0
  a0 := Try.isAgg0
  z0 := Try.sizeOf0
  v0 := Try.zeroValue0
  t3 := Try.underlying3
  a3 := Try.isAgg3
  z3 := Try.sizeOf3
  v3 := Try.zeroValue3
  t4 := Try.underlying4
  a4 := Try.isAgg4
  z4 := Try.sizeOf4
  v4 := Try.zeroValue4
  t5 := Try.underlying5
  a5 := Try.isAgg5
  z5 := Try.sizeOf5
  v5 := Try.zeroValue5
  t9 := Try.underlying9
  a9 := Try.isAgg9
  z9 := Try.sizeOf9
  v9 := Try.zeroValue9
  t22 := Try.underlying83
  a22 := Try.isAgg83
  z22 := Try.sizeOf83
  v22 := Try.zeroValue83
  t23 := Try.underlying83
  a23 := Try.isAgg83
  z23 := Try.sizeOf83
  v23 := Try.zeroValue83
  t25 := Try.underlying3
  a25 := Try.isAgg3
  z25 := Try.sizeOf3
  v25 := Try.zeroValue3
  t32 := Try.underlying33
  a32 := Try.isAgg33
  z32 := Try.sizeOf33
  v32 := Try.zeroValue33
  t35 := Try.underlying233
  a35 := Try.isAgg233
  z35 := Try.sizeOf233
  v35 := Try.zeroValue233
  t36 := Try.underlying234
  a36 := Try.isAgg234
  z36 := Try.sizeOf234
  v36 := Try.zeroValue234
  t41 := Try.underlying219
  a41 := Try.isAgg219
  z41 := Try.sizeOf219
  v41 := Try.zeroValue219
  t44 := Try.underlying129
  a44 := Try.isAgg129
  z44 := Try.sizeOf129
  v44 := Try.zeroValue129
  t46 := Try.underlying229
  a46 := Try.isAgg229
  z46 := Try.sizeOf229
  v46 := Try.zeroValue229
  t53 := Try.underlying251
  a53 := Try.isAgg251
  z53 := Try.sizeOf251
  v53 := Try.zeroValue251
  t57 := Try.underlying196
  a57 := Try.isAgg196
  z57 := Try.sizeOf196
  v57 := Try.zeroValue196
  t63 := Try.underlying258
  a63 := Try.isAgg258
  z63 := Try.sizeOf258
  v63 := Try.zeroValue258
  t64 := Try.underlying80
  a64 := Try.isAgg80
  z64 := Try.sizeOf80
  v64 := Try.zeroValue80 }
theorem sortsA (m : Nat) : AnyZI.SortsIn Try.prog sortedA_ren Fence.wide m :=
  ⟨fun blk off cap ss W hH hblk hsz => callsIn_wide.2 (AnyM.slices_Sort_int sortA blk off cap ss W hH hblk hsz),
   fun p cap W => callsIn_wide.2 (AnyM.slices_Sort_int_none sortA p cap W)⟩

theorem keys_calls (mb : Nat) (W : World) : Calls Try.prog 57 #[.map (some mb)] W fun e w' => e = .returned (.func (.func 105) #[] #[.pointer (some ⟨W.heap.size, 0, none⟩)]) ∧ W.alloc (.cells #[.map (some mb)] 110) = w' :=
  (callsIn_wide.1 (AnyZI.keys_in keysA Fence.wide 5 trivial rfl (some mb) W)).mono fun _ _ h => ⟨h.1, h.2.symm⟩

theorem sorted_keys {α : Type} {l : List (Int × α)} {enc : α → Value} {ss : List Int} (hr : MapI.Rises l) (h : ss.Perm (intKeys (DataW.map (MapI.lits enc l)))) : ss.mergeSort (fun x y => decide (x ≤ y)) = l.map Prod.fst := by
  have hk : intKeys (DataW.map (MapI.lits enc l)) = l.map Prod.fst := by simp [intKeys, MapI.lits, Go.intOf, Function.comp_def]
  rw [hk] at h
  refine List.Perm.eq_of_pairwise (le := (· ≤ ·)) (fun a b _ _ h1 h2 => Int.le_antisymm h1 h2) ?_ ?_ ((List.mergeSort_perm ss _).trans h)
  · have := List.pairwise_mergeSort (le := fun x y : Int => decide (x ≤ y)) (fun a b c h1 h2 => by simp at h1 h2 ⊢; omega) (fun a b => by simp; omega) ss
    exact this.imp fun h => by simpa using h
  · exact List.pairwise_map.2 (hr.imp fun h => Int.le_of_lt h)

set_option maxHeartbeats 1000000 in
theorem sorted_calls {α : Type} {enc : α → Value} {l : List (Int × α)} {b : Nat} {w : World} (hm : MapI.MapIs Try.prog 3 enc w b l) (hlen : l.length ≤ 1000000) :
    Calls Try.prog 56 #[.func (.func 105) #[] #[.pointer (some ⟨w.heap.size, 0, none⟩)]] (w.alloc (.cells #[.map (some b)] 110)) fun e w' =>
      ∃ v, e = .returned v ∧ w'.ownsRow (w.heap.size + 1) 3 1 v l.length ((l.map Prod.fst).map (Value.int .i64)) ∧ (v = .slice none 0 0 ↔ l = []) ∧ Below (w.heap.size + 1) (w.alloc (.cells #[.map (some b)] 110)) w' := by
  refine (callsIn_wide (n := 5)).1 ?_
  have hbl := hm.lt
  have hsz : Maps.size (DataW.map (MapI.lits enc l)) = l.length := MapI.size_lits
  have hseq : SeqGives Fence.wide 2 Try.prog 105 #[.pointer (some ⟨w.heap.size, 0, none⟩)] encZ (fun ss => ss.Perm (intKeys (DataW.map (MapI.lits enc l)))) (Maps.size (DataW.map (MapI.lits enc l))) (w.alloc (.cells #[.map (some b)] 110)) :=
    AnyZI.keys_gives (ρ := keysA_ren) { keysA with } Fence.wide _ trivial rfl (by omega) w.heap.size b l.length _ _ (by simp) (by simp) (hm.kept (World.grownBy_alloc _ _ none) (by simp)).1
  refine (AnyZI.sorted_in sortedA Fence.wide 5 trivial trivial trivial trivial rfl (by omega) (sortsA _) (enters_of Try.func104 (by kernel_rfl) rfl) 105 _ trivial (enters_of Try.func105 (by kernel_rfl) rfl) _ _ (by rw [hsz]; unfold maxLen; omega) (by rw [hsz]; omega) _ hseq).mono ?_
  rintro e w' ⟨v, ss, rfl, hS, hrow, hnil, hb⟩
  have hsorted := sorted_keys hm.rises hS
  rw [World.size_alloc] at hrow hb
  rw [hsorted] at hrow
  have hlen2 : ss.length = l.length := by
    have := hS.length_eq
    simpa [intKeys, MapI.lits] using this
  rw [hlen2] at hrow
  refine ⟨v, rfl, hrow, ?_, hb⟩
  rw [hnil, ← List.length_eq_zero_iff, hlen2, List.length_eq_zero_iff]

theorem sorted_none {α : Type} {enc : α → Value} {l : List (Int × α)} {b : Nat} {w : World} (hm : MapI.MapIs Try.prog 3 enc w b l) (hl : l = []) :
    Calls Try.prog 56 #[.func (.func 105) #[] #[.pointer (some ⟨w.heap.size, 0, none⟩)]] (w.alloc (.cells #[.map (some b)] 110)) fun e w' =>
      e = .returned (.slice none 0 0) ∧ Below (w.heap.size + 1) (w.alloc (.cells #[.map (some b)] 110)) w' :=
  (sorted_calls hm (by rw [hl]; simp)).mono fun e w' ⟨v, he, _, hn, hb⟩ => ⟨by rw [he, hn.2 hl], hb⟩
theorem sorted_some {α : Type} {enc : α → Value} {l : List (Int × α)} {b : Nat} {w : World} (hm : MapI.MapIs Try.prog 3 enc w b l) (hlen : l.length ≤ 1000000) (hl : 0 < l.length) :
    Calls Try.prog 56 #[.func (.func 105) #[] #[.pointer (some ⟨w.heap.size, 0, none⟩)]] (w.alloc (.cells #[.map (some b)] 110)) fun e w' =>
      ∃ g cap, e = .returned (.slice (some ⟨g, 0, none⟩) l.length cap) ∧ w'.ownsRow (w.heap.size + 1) 3 1 (.slice (some ⟨g, 0, none⟩) l.length cap) l.length ((l.map Prod.fst).map (Value.int .i64)) ∧ Below (w.heap.size + 1) (w.alloc (.cells #[.map (some b)] 110)) w' :=
  (sorted_calls hm hlen).mono fun e w' ⟨v, he, hr, hn, hb⟩ => by
    obtain ⟨g, cap, hv, _, _⟩ := hr.form hl
    exact ⟨g, cap, by rw [he, hv], by rw [← hv]; exact hr, hb⟩
end Go.Proofs.Ytepkonhgkabkcaa
