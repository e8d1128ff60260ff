/- Package page: what a page is, and what Empty, Right, Put, Get and Apply answer. No condition. -/
import Derived.Test.YtepkonhgkabkcaaProg
import Derived.WalkKit
import Derived.WalkLawsBesides
import Derived.WalkSpells
import Derived.Outline
import Derived.BigQuiet
import Derived.Deep.QuietTactic
import Derived.Deep.RegionLaw
import Derived.BigRegion
import Derived.Lib.Hide
import Derived.Lib.BufferWrite
import Derived.Lib.LazyBuf
namespace Go.Proofs.Ytepkonhgkabkcaa
open Go.RowKit
set_option linter.unusedVariables false
set_option linter.unusedSimpArgs false

abbrev tPg : Nat := 56
theorem zeroCells_eq : Try.zeroCells202 = Array.replicate 220 (.int .u8 0) := by kernel_rfl
theorem zeroCells_get (i : Nat) (h : i < 220) : Try.zeroCells202[i]? = some (.int .u8 0) := by
  rw [zeroCells_eq, Array.getElem?_replicate, if_pos h]
/-- The bytes of a page of noughts. -/
def zeros : ByteArray := strOfNums (List.replicate 220 0)
theorem zeros_size : zeros.size = 220 := by unfold zeros; rw [strOfNums_size, List.length_replicate]
theorem zeros_conv (W : World) (b : Nat) (hb : W.heap[b]? = some (.cells Try.zeroCells202 202 (0, 0))) :
    (convert 94 9 (.slice (some ⟨b, 0, none⟩) 220 220)).run Try.prog W = .ok (.string zeros) W := by
  refine run_convert_bytes_arg W 94 5 Try.underlying94 Try.underlying5 b 0 220 220 (List.replicate 220 0) (List.length_replicate ..) (fun i hi => ?_) 9 Try.underlying9
  rw [Nat.zero_add]
  simp only [World.cell?, hb]
  rw [zeroCells_get i hi, List.getD_eq_getElem?_getD, List.getElem?_replicate, if_pos hi]
  rfl

set_option maxRecDepth 100000 in
theorem empty_calls (w : World) : Calls Try.prog 86 #[] w fun r w' => r = .returned (.agg #[.int .i64 0, .string zeros]) ∧ Below w.heap.size w w' := by
  have hc := zeros_conv ((w.alloc (.cells #[.int .i64 0, .string ⟨#[]⟩] 56)).alloc (.cells Try.zeroCells202 202)) (w.heap.size + 1) (by rw [← World.size_alloc w (.cells #[.int .i64 0, .string ⟨#[]⟩] 56)]; exact heap_alloc_new _ _)
  go_enter Try.func86, Try.ntmps86
  go_wp2_with fail
  exact bodyPost_ret (v := .agg #[.int .i64 0, .string zeros]) (by simp [results, Try.results86, go_sem]) rfl ⟨rfl, ((Below.refl _ w).alloc (Nat.le_refl _) _).alloc (by simp) _⟩

/-! ### plainly -/
structure Pg where
  place : Int
  data : ByteArray
def Pg.val (p : Pg) : Value := .agg #[.int .i64 p.place, .string p.data]
def pg0 : Pg := ⟨0, ⟨#[]⟩⟩
def Right (p : Pg) : Prop := 0 ≤ p.place ∧ p.place ≤ 2147483647 ∧ p.data.size = 220
instance (p : Pg) : Decidable (Right p) := by unfold Right; exact inferInstance
def splice (d : ByteArray) (off : Nat) (s : ByteArray) : ByteArray := ⟨(d.data.toList.take off ++ s.data.toList ++ d.data.toList.drop (off + s.size)).toArray⟩
def putE (p : Pg) (off : Int) (s : ByteArray) (place : Int) : Int :=
  if ¬ Right p then 3 else if place < 0 ∨ 2147483647 < place then 1 else if off < 0 ∨ 220 < off + s.size then 2 else 0
def putP (p : Pg) (off : Int) (s : ByteArray) (place : Int) : Pg := if putE p off s place = 0 then ⟨place, splice p.data off.toNat s⟩ else pg0
def getE (p : Pg) (off n : Int) : Int := if ¬ Right p then 3 else if off < 0 ∨ n < 0 ∨ 220 < off + n then 2 else 0
def getS (p : Pg) (off n : Int) : ByteArray := if getE p off n = 0 then p.data.extract off.toNat (off + n).toNat else ⟨#[]⟩

theorem right_yes {p : Pg} (h : Right p) (w : World) : Calls Try.prog 72 #[.agg #[.int .i64 p.place, .string p.data]] w fun r w' => r = .returned (.bool true) ∧ Below w.heap.size w w' := by
  obtain ⟨h1, h2, h3⟩ := h
  have h3' : ((p.data.size : Int) == 220) = true := by simp; omega
  have H3 := Lib.hid h3
  clear h3
  go_enter Try.func72, Try.ntmps72
  go_wp2
  go_ret
  exact ⟨rfl, (Below.refl _ _).alloc (Nat.le_refl _) _⟩
theorem right_no {p : Pg} (h : ¬ Right p) (w : World) : Calls Try.prog 72 #[.agg #[.int .i64 p.place, .string p.data]] w fun r w' => r = .returned (.bool false) ∧ Below w.heap.size w w' := by
  have h' : p.place < 0 ∨ (0 ≤ p.place ∧ 2147483647 < p.place) ∨ (0 ≤ p.place ∧ p.place ≤ 2147483647 ∧ ¬ p.data.size = 220) := by
    by_cases a : p.place < 0
    · exact .inl a
    · by_cases b : p.place ≤ 2147483647
      · refine .inr (.inr ⟨by omega, b, fun c => h ⟨by omega, b, c⟩⟩)
      · exact .inr (.inl ⟨by omega, by omega⟩)
  clear h
  rcases h' with h1 | ⟨h1, h2⟩ | ⟨h1, h2, h3⟩
  · have b1 : decide (0 ≤ p.place) = false := by simp; omega
    go_enter Try.func72, Try.ntmps72
    go_wp2
    go_ret
    exact ⟨rfl, (Below.refl _ _).alloc (Nat.le_refl _) _⟩
  · have b2 : decide (p.place ≤ 2147483647) = false := by simp; omega
    go_enter Try.func72, Try.ntmps72
    go_wp2
    go_ret
    exact ⟨rfl, (Below.refl _ _).alloc (Nat.le_refl _) _⟩
  · have h3' : ((p.data.size : Int) == 220) = false := by simp; omega
    clear h3
    go_enter Try.func72, Try.ntmps72
    go_wp2
    go_ret
    exact ⟨rfl, (Below.refl _ _).alloc (Nat.le_refl _) _⟩
end Go.Proofs.Ytepkonhgkabkcaa
