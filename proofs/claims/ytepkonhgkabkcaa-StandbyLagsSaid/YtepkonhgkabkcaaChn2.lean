/- Package chain: begin, on, at. Condition: the list reads as entries. -/
import Derived.Test.YtepkonhgkabkcaaChn1
namespace Go.Proofs.Ytepkonhgkabkcaa
open Go.RowKit Go.Maps MapI
set_option linter.unusedVariables false
set_option linter.unusedSimpArgs false

abbrev tWk : Nat := 198
/-- Do the places rise as far as i? -/
def fallB (es : List En) : Nat → Bool
  | 0 => false
  | i + 1 => fallB es i || (match es[i - 1]?, es[i]? with | some x, some y => decide (0 < i) && decide (y.1 ≤ x.1) | _, _ => false)
theorem fallB_one (es : List En) : fallB es (0 + 1) = fallB es 0 := by
  show (false || (match es[0 - 1]?, es[0]? with | some x, some y => decide (0 < 0) && decide (y.1 ≤ x.1) | _, _ => false)) = false
  cases es[0 - 1]? <;> cases es[0]? <;> simp
theorem fallB_rise {es : List En} : ∀ {i : Nat}, i ≤ es.length → (fallB es i = false ↔ Rise (es.take i))
  | 0, _ => by simp [fallB, Rise]
  | i + 1, h => by
    have ih := fallB_rise (es := es) (i := i) (by omega)
    obtain ⟨y, hy⟩ : ∃ y, es[i]? = some y := ⟨_, List.getElem?_eq_getElem (by omega)⟩
    have htk : es.take (i + 1) = es.take i ++ [y] := by rw [List.take_add_one, hy]; rfl
    unfold fallB
    rw [htk]
    unfold Rise
    rw [List.pairwise_append, Bool.or_eq_false_iff, ih]
    unfold Rise
    constructor
    · rintro ⟨h1, h2⟩
      refine ⟨h1, by simp, fun x hx z hz => ?_⟩
      rw [List.mem_singleton.1 hz]
      by_cases hi : 0 < i
      · obtain ⟨p, hp⟩ : ∃ p, es[i - 1]? = some p := ⟨_, List.getElem?_eq_getElem (by omega)⟩
        rw [hp, hy] at h2
        simp only [hi, decide_true, Bool.true_and, decide_eq_false_iff_not] at h2
        obtain ⟨k, hk⟩ := List.getElem?_of_mem hx
        have hkl : k < i := by have := (List.getElem?_eq_some_iff.1 hk).1; simp at this; omega
        rcases Nat.lt_or_ge k (i - 1) with h3 | h3
        · have hpt : (es.take i)[i - 1]? = some p := by rw [List.getElem?_take, if_pos (by omega)]; exact hp
          have := rise_lt h1 hk hpt h3
          omega
        · obtain rfl : k = i - 1 := by omega
          rw [List.getElem?_take, if_pos (by omega), hp] at hk
          injection hk with hk
          rw [← hk]; omega
      · obtain rfl : i = 0 := by omega
        simp at hx
    · rintro ⟨h1, _, h3⟩
      refine ⟨h1, ?_⟩
      by_cases hi : 0 < i
      · obtain ⟨p, hp⟩ : ∃ p, es[i - 1]? = some p := ⟨_, List.getElem?_eq_getElem (by omega)⟩
        rw [hp, hy]
        have hm : p ∈ es.take i := List.mem_of_getElem? (i := i - 1) (by rw [List.getElem?_take, if_pos (by omega)]; exact hp)
        have := h3 p hm y (by simp)
        simp; omega
      · obtain rfl : i = 0 := by omega
        cases es[0 - 1]? <;> cases es[0]? <;> simp
theorem fallB_full {es : List En} : fallB es es.length = false ↔ Rise es := by
  have := fallB_rise (es := es) (i := es.length) (Nat.le_refl _)
  rwa [List.take_of_length_le (Nat.le_refl _)] at this
theorem below_drewN (B : Nat) (w : World) (n : Nat) : Below B w (w.drewN n) := ⟨rfl, rfl, rfl, Nat.le_refl _, fun _ _ => rfl⟩
/-- A walker's block. -/
def wkCells (lv : Value) (txn : Int) (sv : Value) (err : Int) : Array Value := #[lv, .int .i64 txn, sv, .int .i64 err]
def BegPost (w : World) (lv : Value) (txn : Int) (es : List En) (e : Ending) (w' : World) : Prop :=
  e = .returned (.pointer (some ⟨w.heap.size, 0, none⟩)) ∧ w'.heap[w.heap.size]? = some (.cells (wkCells lv txn (.pointer none) (if fallB es es.length then 3 else 0)) tWk (0, 0)) ∧ Below w.heap.size w w'
set_option maxHeartbeats 2000000 in
set_option maxRecDepth 100000 in
theorem chBegin_calls {w : World} {A : Option Addr} {b o c : Nat} {es : List En} {txn : Int} (hL : Lst w A b o es) (hlen : es.length ≤ 1000000) :
    Calls Try.prog 114 #[.slice A es.length c, .int .i64 txn] w (BegPost w (.slice A es.length c) txn es) := by
  go_enter Try.func114, Try.ntmps114
  go_wp2_with fail
  go_loopg [13] es.length (fun k iv wr => ∃ i : Nat, i + k = es.length ∧ iv = .int .i64 i ∧ wr.heap[w.heap.size]? = some (.cells (wkCells (.slice A es.length c) txn (.pointer none) (if fallB es i then 3 else 0)) tWk (0, 0)) ∧ Below w.heap.size w wr)
  case atStart => exact ⟨0, by omega, rfl, heap_alloc_new _ _, (Below.refl _ _).alloc (Nat.le_refl _) _⟩
  case round =>
    obtain ⟨wo, rfl⟩ : ∃ wo : World, wo = wr := ⟨_, rfl⟩
    obtain ⟨ko, rfl⟩ : ∃ ko : Nat, ko = gk := ⟨_, rfl⟩
    obtain ⟨i, hin, rfl, hwb, hbo⟩ := hrel
    by_cases hlt : i < es.length
    · have hA := hL.addr (Lst.ne hlt)
      subst hA
      have hb := hL.lt (Lst.ne hlt)
      obtain ⟨y, hy⟩ : ∃ y, es[i]? = some y := ⟨_, List.getElem?_eq_getElem hlt⟩
      have d0 := ((hL.at_ i y hy).of_block (hbo.block _ hb)).1
      have b2 : (0 : Int) ≤ (i : Int) := by omega
      have b3 : (i : Int) < (es.length : Int) := by omega
      by_cases hi : i = 0
      · subst hi
        have hf : fallB es (0 + 1) = fallB es 0 := fallB_one es
        have HF := Lib.hid hf
        have HWB := Lib.hid hwb
        clear hy hf hwb
        go_wp2_with fail
        go_quiet (fail)
        go_wp2_with fail
        go_roundg (ko - 1)
        case measure => omega
        case rel => exact ⟨0 + 1, by omega, by go_num, by rw [HF.out]; exact HWB.out, hbo.trans ⟨rfl, rfl, rfl, Nat.le_refl _, fun _ _ => rfl⟩⟩
      · obtain ⟨x, hx⟩ : ∃ x, es[i - 1]? = some x := ⟨_, List.getElem?_eq_getElem (by omega)⟩
        have q0 := ((hL.at_ _ x hx).of_block (hbo.block _ hb)).1
        have s0 : 0 < i := by omega
        have s1 : IntKind.i64.wrap ((i : Int) - 1) = (i : Int) - 1 := IntWalk.i64_in _ (by omega)
        have s2 : (0 : Int) ≤ (i : Int) - 1 := by omega
        have s3 : (i : Int) - 1 < (es.length : Int) := by omega
        have s4 : ((i : Int) - 1).toNat = i - 1 := by omega
        have s5 : (1 : Int) ≤ (i : Int) := by omega
        have hf : fallB es (i + 1) = (fallB es i || decide (y.1 ≤ x.1)) := by
          conv => lhs; unfold fallB
          rw [hx, hy]
          simp [s0]
        have HF := Lib.hid hf
        by_cases hc : y.1 ≤ x.1
        · have t1 : decide (y.1 ≤ x.1) = true := decide_eq_true hc
          have w3 := cell_of_block hwb 3
          have w3' : wo.cell? ⟨w.heap.size, 3, none⟩ = some (.int .i64 (if fallB es i then 3 else 0)) := w3
          have f3 : wo.frozen? ⟨w.heap.size, 3, none⟩ = false := frozen_of_block hwb 3
          have HWB := Lib.hid hwb
          have hzz : w.heap.size ≤ w.heap.size := Nat.le_refl _
          clear hx hy hf hwb w3 hzz
          go_wp2_with fail
          go_quiet (fail)
          go_wp2_with fail
          go_roundg (ko - 1)
          case measure => omega
          case rel =>
            refine ⟨i + 1, by omega, by go_num, ?_, ?_⟩
            · rw [HF.out, t1, Bool.or_true]
              refine (setCell_block _ _ _ _ HWB.out).trans ?_
              unfold wkCells
              rfl
            · exact Below.setCell (hbo.trans (below_drewN _ _ _)) (p := ⟨w.heap.size, 3, none⟩) (Nat.le_refl _) _
        · have t1 : decide (y.1 ≤ x.1) = false := decide_eq_false hc
          have HWB := Lib.hid hwb
          clear hx hy hf hwb
          go_wp2_with fail
          go_quiet (fail)
          go_wp2_with fail
          go_roundg (ko - 1)
          case measure => omega
          case rel =>
            exact ⟨i + 1, by omega, by go_num, by rw [HF.out, t1, Bool.or_false]; exact HWB.out, hbo.trans ⟨rfl, rfl, rfl, Nat.le_refl _, fun _ _ => rfl⟩⟩
    · have hi2 : i = es.length := by omega
      subst hi2
      go_wp2_with fail
      go_ret
      exact ⟨rfl, hwb, hbo⟩
/-! ### on -/
theorem on_yes {w : World} {wb sb : Nat} {lv : Value} {txn place : Int} (hw : w.heap[wb]? = some (.cells (wkCells lv txn (.pointer (some ⟨sb, 0, none⟩)) 0) tWk (0, 0))) (hs : w.cell? ⟨sb, 0, none⟩ = some (.int .i64 0)) (hp : 0 < place) :
    Calls Try.prog 136 #[.pointer (some ⟨wb, 0, none⟩), .int .i64 place] w fun e w' => e = .returned (.bool true) ∧ w = w' := by
  have w2 : w.cell? ⟨wb, 2, none⟩ = some (.pointer (some ⟨sb, 0, none⟩)) := cell_of_block hw 2
  have w3 : w.cell? ⟨wb, 3, none⟩ = some (.int .i64 0) := cell_of_block hw 3
  have t1 : (place != 0) = true := by simp; omega
  clear hw
  go_enter Try.func136, Try.ntmps136
  go_wp2_with fail
  go_ret
  exact ⟨rfl, rfl⟩
theorem on_no {w : World} {wb sb : Nat} {lv : Value} {txn place err : Int} (hw : w.heap[wb]? = some (.cells (wkCells lv txn (.pointer (some ⟨sb, 0, none⟩)) err) tWk (0, 0))) (hs : w.cell? ⟨sb, 0, none⟩ = some (.int .i64 0)) (hp : err ≠ 0 ∨ place ≤ 0) :
    Calls Try.prog 136 #[.pointer (some ⟨wb, 0, none⟩), .int .i64 place] w fun e w' => e = .returned (.bool false) ∧ w = w' := by
  have w2 : w.cell? ⟨wb, 2, none⟩ = some (.pointer (some ⟨sb, 0, none⟩)) := cell_of_block hw 2
  have w3 : w.cell? ⟨wb, 3, none⟩ = some (.int .i64 err) := cell_of_block hw 3
  clear hw
  by_cases he : err = 0
  · subst he
    have hp' : place ≤ 0 := by omega
    clear hp
    by_cases h0 : place = 0
    · subst h0
      go_enter Try.func136, Try.ntmps136
      go_wp2_with fail
      go_ret
      exact ⟨rfl, rfl⟩
    · have t1 : (place != 0) = true := by simp; omega
      have t2 : decide (0 < place) = false := decide_eq_false (by omega)
      clear h0
      go_enter Try.func136, Try.ntmps136
      go_wp2_with fail
      go_ret
      exact ⟨rfl, rfl⟩
  · have t1 : (err == 0) = false := by simpa using he
    clear hp he
    go_enter Try.func136, Try.ntmps136
    go_wp2_with fail
    go_ret
    exact ⟨rfl, rfl⟩
/-! ### at -/
def badR (r : Rc) (txn place : Int) : Bool := !((r.kind == 1) || (r.kind == 2)) || ((r.txn != txn) || (decide (place ≤ r.prev) || ((r.kind == 2) && decide (place ≤ r.next))))
def recAt (es : List En) (place : Int) : Option Rc := (es.find? fun x => x.1 == place).map (·.2)
theorem recAt_found {es : List En} {place : Int} {i : Nat} {x : En} (hr : Rise es) (hc : Cutl es place i) (hx : es[i]? = some x) (he : x.1 = place) : recAt es place = some x.2 := by
  unfold recAt
  have : es.find? (fun x => x.1 == place) = some x := by
    rw [List.find?_eq_some_iff_getElem]
    obtain ⟨h1, h2⟩ := List.getElem?_eq_some_iff.1 hx
    refine ⟨by simpa using he, i, h1, h2, fun j hj => ?_⟩
    have := hc.2.1 j _ hj (List.getElem?_eq_getElem (by omega))
    simp; omega
  rw [this]; rfl
theorem recAt_none {es : List En} {place : Int} {i : Nat} (hr : Rise es) (hc : Cutl es place i) (hn : ∀ x, es[i]? = some x → x.1 ≠ place) : recAt es place = none := by
  unfold recAt
  have : es.find? (fun x => x.1 == place) = none := by
    rw [List.find?_eq_none]
    intro x hx
    obtain ⟨k, hk⟩ := List.getElem?_of_mem hx
    simp only [beq_iff_eq]
    rcases Nat.lt_trichotomy k i with h | h | h
    · have := hc.2.1 k x h hk; omega
    · subst h; exact hn x hk
    · have h1 := hc.2.2 k x (by omega) hk
      intro e
      have hi : i < es.length := by have := (List.getElem?_eq_some_iff.1 hk).1; omega
      have h2 := rise_lt hr (List.getElem?_eq_getElem hi) hk h
      have h3 := hc.2.2 i _ (Nat.le_refl _) (List.getElem?_eq_getElem hi)
      omega
  rw [this]; rfl
def zeroR : Rc := ⟨0, 0, 0, 0, 0, 0, 0, ⟨#[]⟩, ⟨#[]⟩, .slice none 0 0, .slice none 0 0⟩
/-- What 'at' answers: the record, whether all is well, the walker's error. -/
def atR (es : List En) (txn place : Int) : Rc × Bool × Int := match recAt es place with
  | none => (zeroR, false, 7)
  | some r => if badR r txn place then (r, false, 1) else (r, true, 0)
def AtPost (w : World) (wb : Nat) (lv : Value) (txn : Int) (sv : Value) (x : Rc × Bool × Int) (e : Ending) (w' : World) : Prop :=
  e = .returned (.tuple #[x.1.val, .bool x.2.1]) ∧ w'.heap[wb]? = some (.cells (wkCells lv txn sv x.2.2) tWk (0, 0)) ∧ w.grownBy w' (some wb)
theorem grown_of_below {w w' : World} {row : Option Nat} (h : Below w.heap.size w w') : w.grownBy w' row := ⟨h.os, h.tape, h.output, h.size, fun k hk _ => h.block k hk⟩
end Go.Proofs.Ytepkonhgkabkcaa
