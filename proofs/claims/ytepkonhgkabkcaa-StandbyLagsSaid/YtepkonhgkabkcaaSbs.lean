/- The library's slices.SortFunc of numbers by a function value. Condition: what the function value answers. -/
import Derived.Shelf.SlSortCmp.Whole1
import Derived.Sort.LotA
import Derived.Ground.SlsfProg
import Derived.Test.YtepkonhgkabkcaaSb8
namespace Go.Proofs.Ytepkonhgkabkcaa
open Go.RowKit Go.Maps Go.Sort Go.Shelf

def sortF_ren : Go.Shelf.Ren := ⟨fun | 6 => 92 | 15 => 121 | 14 => 120 | 28 => 148 | 29 => 149 | 20 => 140 | 21 => 141 | 22 => 142 | 23 => 143 | 24 => 144 | 25 => 145 | 26 => 146 | 27 => 147 | 46 => 164 | 47 => 165 | 48 => 166 | 49 => 167 | 50 => 168 | 57 => 173 | n => n, fun | 22 => 83 | 24 => 3 | 25 => 150 | 3 => 3 | 39 => 33 | 0 => 0 | 53 => 129 | 55 => 229 | 4 => 4 | 46 => 234 | 45 => 233 | 50 => 219 | 5 => 5 | 9 => 9 | 66 => 251 | 70 => 196 | 76 => 258 | 77 => 80 | n => n, fun | n => n⟩
theorem sortF : Go.Proofs.SlLaysF.n6 Try.prog sortF_ren := {
  mixed := by kernel_rfl
  f6 := ⟨Try.f92.name, by decide, Try.func92.trans (congrArg some (by kernel_rfl))⟩
  f14 := ⟨Try.f120.name, by decide, Try.func120.trans (congrArg some (by kernel_rfl))⟩
  f15 := Try.func121.trans (congrArg some (by kernel_rfl))
  f20 := ⟨Try.f140.name, by decide, Try.func140.trans (congrArg some (by kernel_rfl))⟩
  f21 := ⟨Try.f141.name, by decide, Try.func141.trans (congrArg some (by kernel_rfl))⟩
  f22 := ⟨Try.f142.name, by decide, Try.func142.trans (congrArg some (by kernel_rfl))⟩
  f23 := ⟨Try.f143.name, by decide, Try.func143.trans (congrArg some (by kernel_rfl))⟩
  f24 := ⟨Try.f144.name, by decide, Try.func144.trans (congrArg some (by kernel_rfl))⟩
  f25 := ⟨Try.f145.name, by decide, Try.func145.trans (congrArg some (by kernel_rfl))⟩
  f26 := ⟨Try.f146.name, by decide, Try.func146.trans (congrArg some (by kernel_rfl))⟩
  f27 := ⟨Try.f147.name, by decide, Try.func147.trans (congrArg some (by kernel_rfl))⟩
  f28 := Try.func148.trans (congrArg some (by kernel_rfl))
  f29 := Try.func149.trans (congrArg some (by kernel_rfl))
  f46 := ⟨Try.f164.name, by decide, Try.func164.trans (congrArg some (by kernel_rfl))⟩
  f47 := Try.func165.trans (congrArg some (by kernel_rfl))
  f48 := Try.func166.trans (congrArg some (by kernel_rfl))
  f49 := ⟨Try.f167.name, by decide, Try.func167.trans (congrArg some (by kernel_rfl))⟩
  f50 := ⟨Try.f168.name, by decide, Try.func168.trans (congrArg some (by kernel_rfl))⟩
  f57 := ⟨Try.f173.name, by decide, Try.func173.trans (congrArg some (by kernel_rfl))⟩
  t0 := Try.underlying0
  a0 := Try.isAgg0
  z0 := Try.sizeOf0
  v0 := Try.zeroValue0
  t3 := Try.underlying3
  a3 := Try.isAgg3
  z3 := Try.sizeOf3
  v3 := Try.zeroValue3
  t4 := Try.underlying4
  a4 := Try.isAgg4
  z4 := Try.sizeOf4
  v4 := Try.zeroValue4
  t5 := Try.underlying5
  a5 := Try.isAgg5
  z5 := Try.sizeOf5
  v5 := Try.zeroValue5
  t9 := Try.underlying9
  a9 := Try.isAgg9
  z9 := Try.sizeOf9
  v9 := Try.zeroValue9
  t22 := Try.underlying83
  a22 := Try.isAgg83
  z22 := Try.sizeOf83
  v22 := Try.zeroValue83
  a24 := Try.isAgg3
  z24 := Try.sizeOf3
  t25 := Try.underlying150
  a25 := Try.isAgg150
  z25 := Try.sizeOf150
  v25 := Try.zeroValue150
  t39 := Try.underlying33
  a39 := Try.isAgg33
  z39 := Try.sizeOf33
  v39 := Try.zeroValue33
  t45 := Try.underlying233
  a45 := Try.isAgg233
  z45 := Try.sizeOf233
  v45 := Try.zeroValue233
  t46 := Try.underlying234
  a46 := Try.isAgg234
  z46 := Try.sizeOf234
  v46 := Try.zeroValue234
  t50 := Try.underlying219
  a50 := Try.isAgg219
  z50 := Try.sizeOf219
  v50 := Try.zeroValue219
  t53 := Try.underlying129
  a53 := Try.isAgg129
  z53 := Try.sizeOf129
  v53 := Try.zeroValue129
  t55 := Try.underlying229
  a55 := Try.isAgg229
  z55 := Try.sizeOf229
  v55 := Try.zeroValue229
  t66 := Try.underlying251
  a66 := Try.isAgg251
  z66 := Try.sizeOf251
  v66 := Try.zeroValue251
  t70 := Try.underlying196
  a70 := Try.isAgg196
  z70 := Try.sizeOf196
  v70 := Try.zeroValue196
  t76 := Try.underlying258
  a76 := Try.isAgg258
  z76 := Try.sizeOf258
  v76 := Try.zeroValue258
  t77 := Try.underlying80
  a77 := Try.isAgg80
  z77 := Try.sizeOf80
  v77 := Try.zeroValue80 }

theorem sortSays (bx : Nat) : SortSays 92 93 #[.pointer (some ⟨bx, 0, none⟩)] := by
  intro α _ enc h1 cf hO blk off cap d w hcmp hH hblk hsz hT
  exact (Any.slices_SortFunc sortF enc h1 cf hO 93 _ blk off cap d w (enters_of Try.func93 (by kernel_rfl) rfl) hcmp hH hblk hsz).mono fun _ _ ⟨he, d', n, os, hp, hs, hw⟩ =>
    ⟨he, n, os, by rw [hw, ← sorted_unique_holds hO hT d d' hp hs]⟩
end Go.Proofs.Ytepkonhgkabkcaa
