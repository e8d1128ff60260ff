/- Few, of a record and of a list. No condition. -/
import Derived.Test.YtepkonhgkabkcaaJflt
namespace Go.Proofs.Ytepkonhgkabkcaa
open Go.RowKit Go.Maps MapI
set_option linter.unusedVariables false
set_option linter.unusedSimpArgs false

def slen : Value → Nat
  | .slice _ n _ => n
  | _ => 0
def fewR (r : Rc) : Bool := decide (r.before.size ≤ 300) && (decide (r.after.size ≤ 300) && (decide (slen r.txns ≤ 50) && decide (slen r.pages ≤ 50)))
/-- What an argument's entry is, as it comes in. -/
structure EnIn (x : En) : Prop where
  wf : (Lit.int .i64 x.1).wf = true
  wft : (Lit.int .i64 x.2.txn).wf = true
  wfb : (Lit.int .i64 x.2.begin_).wf = true
  tx1 : ∃ A n c, x.2.txns = .slice A n c
  pg1 : ∃ A n c, x.2.pages = .slice A n c
theorem EnIn.ok {x : En} (h : EnIn x) (hf : fewR x.2 = true) : EnOk x := by
  unfold fewR at hf
  simp only [Bool.and_eq_true, decide_eq_true_eq] at hf
  exact ⟨h.wf, h.wft, h.wfb, hf.1, hf.2.1, h.tx1, h.pg1⟩
set_option maxHeartbeats 2000000 in
set_option maxRecDepth 100000 in
theorem fewR_calls (r : Rc) (w : World) (ht : ∃ A n c, r.txns = .slice A n c) (hp : ∃ A n c, r.pages = .slice A n c) :
    Calls Try.prog 52 #[.agg #[.int .i64 r.kind, .int .i64 r.txn, .int .i64 r.page, .int .i64 r.off, .int .i64 r.prev, .int .i64 r.next, .int .i64 r.begin_, .string r.before, .string r.after, r.txns, r.pages]] w fun e w' => e = .returned (.bool (fewR r)) ∧ Below w.heap.size w w' := by
  obtain ⟨A1, n1, c1, e1⟩ := ht
  obtain ⟨A2, n2, c2, e2⟩ := hp
  have hfew : fewR r = (decide (r.before.size ≤ 300) && (decide (r.after.size ≤ 300) && (decide (n1 ≤ 50) && decide (n2 ≤ 50)))) := by unfold fewR; rw [e1, e2]; rfl
  rw [hfew, e1, e2]
  clear hfew
  have i1 : decide ((r.before.size : Int) ≤ 300) = decide (r.before.size ≤ 300) := by congr 1; exact propext ⟨fun h => by omega, fun h => by omega⟩
  have i2 : decide ((r.after.size : Int) ≤ 300) = decide (r.after.size ≤ 300) := by congr 1; exact propext ⟨fun h => by omega, fun h => by omega⟩
  have i3 : decide ((n1 : Int) ≤ 50) = decide (n1 ≤ 50) := by congr 1; exact propext ⟨fun h => by omega, fun h => by omega⟩
  have i4 : decide ((n2 : Int) ≤ 50) = decide (n2 ≤ 50) := by congr 1; exact propext ⟨fun h => by omega, fun h => by omega⟩
  cases h1 : decide (r.before.size ≤ 300)
  · rw [h1] at i1
    go_enter Try.func52, Try.ntmps52
    go_wp2_with fail
    go_ret
    exact ⟨rfl, (Below.refl _ _).alloc (Nat.le_refl _) _⟩
  rw [h1] at i1
  cases h2 : decide (r.after.size ≤ 300)
  · rw [h2] at i2
    go_enter Try.func52, Try.ntmps52
    go_wp2_with fail
    go_ret
    exact ⟨rfl, (Below.refl _ _).alloc (Nat.le_refl _) _⟩
  rw [h2] at i2
  cases h3 : decide (n1 ≤ 50)
  · rw [h3] at i3
    go_enter Try.func52, Try.ntmps52
    go_wp2_with fail
    go_ret
    exact ⟨rfl, (Below.refl _ _).alloc (Nat.le_refl _) _⟩
  rw [h3] at i3
  cases h4 : decide (n2 ≤ 50)
  all_goals
    rw [h4] at i4
    go_enter Try.func52, Try.ntmps52
    go_wp2_with fail
    go_ret
    exact ⟨rfl, (Below.refl _ _).alloc (Nat.le_refl _) _⟩
def FewPost (w : World) (es : List En) (e : Ending) (w' : World) : Prop := ∃ y, e = .returned (.bool y) ∧ (y = true → (∀ x ∈ es, EnOk x) ∧ es.length ≤ 200) ∧ Below w.heap.size w w'
set_option maxHeartbeats 2000000 in
set_option maxRecDepth 100000 in
theorem few_calls {w : World} {A : Option Addr} {b o c : Nat} {es : List En} (hL : Lst w A b o es) (hin : ∀ x ∈ es, EnIn x) (hlen : es.length ≤ maxLen) : Calls Try.prog 14 #[.slice A es.length c] w (FewPost w es) := by
  unfold maxLen at hlen
  have hlen' : es.length ≤ 9223372036854775807 := by omega
  go_enter Try.func14, Try.ntmps14
  go_wp2_with fail
  go_loopg [3] es.length (fun k iv wr => ∃ i : Nat, i + k = es.length ∧ iv = .int .i64 i ∧ (∀ x ∈ es.take i, EnOk x) ∧ Below w.heap.size w wr)
  case atStart => exact ⟨0, by omega, rfl, by simp, Below.refl _ _⟩
  case round =>
    obtain ⟨wo, rfl⟩ : ∃ wo : World, wo = wr := ⟨_, rfl⟩
    obtain ⟨ko, rfl⟩ : ∃ ko : Nat, ko = gk := ⟨_, rfl⟩
    obtain ⟨i, hik, rfl, hall, hbo⟩ := hrel
    by_cases hlt : i < es.length
    · have hA := hL.addr (Lst.ne hlt)
      subst hA
      have hb := hL.lt (Lst.ne hlt)
      obtain ⟨x, hx⟩ : ∃ x, es[i]? = some x := ⟨_, List.getElem?_eq_getElem hlt⟩
      have hxi := hin x (List.mem_of_getElem? hx)
      obtain ⟨d0, d1, d2, d3, d4, d5, d6, d7, d8, d9, d10, d11⟩ := ((hL.at_ i x hx).of_block (hbo.block _ hb)).cells
      have b2 : (0 : Int) ≤ (i : Int) := by omega
      have b3 : (i : Int) < (es.length : Int) := by omega
      have htk : es.take (i + 1) = es.take i ++ [x] := by rw [List.take_add_one, hx]; rfl
      have HC := Lib.hid (fewR_calls x.2 · hxi.tx1 hxi.pg1)
      obtain ⟨y, hy⟩ : ∃ y, y = fewR x.2 := ⟨_, rfl⟩
      have HC2 := Lib.hid (show ∀ wx, Calls Try.prog 52 #[.agg #[.int .i64 x.2.kind, .int .i64 x.2.txn, .int .i64 x.2.page, .int .i64 x.2.off, .int .i64 x.2.prev, .int .i64 x.2.next, .int .i64 x.2.begin_, .string x.2.before, .string x.2.after, x.2.txns, x.2.pages]] wx fun e w' => e = .returned (.bool y) ∧ Below wx.heap.size wx w' from by rw [hy]; exact HC.out)
      have HY := Lib.hid hy
      have HT := Lib.hid htk
      clear HC hy htk hx
      cases y
      · go_wp2_with (first | (go_at_call 52; refine (HC2.out _).mono ?_; rintro e w2 ⟨rfl, b4⟩))
        go_ret
        exact ⟨false, rfl, by simp, hbo.trans (b4.mono hbo.size)⟩
      · go_wp2_with (first | (go_at_call 52; refine (HC2.out _).mono ?_; rintro e w2 ⟨rfl, b4⟩))
        go_roundg (ko - 1)
        case measure => omega
        case rel =>
          refine ⟨i + 1, by omega, by go_num, ?_, hbo.trans (b4.mono hbo.size)⟩
          rw [HT.out]
          intro z hz
          rcases List.mem_append.1 hz with hz | hz
          · exact hall z hz
          · rw [List.mem_singleton.1 hz]; exact hxi.ok HY.out.symm
    · have hi2 : i = es.length := by omega
      subst hi2
      rw [List.take_of_length_le (Nat.le_refl _)] at hall
      go_wp2_with fail
      go_ret
      exact ⟨_, rfl, fun hy => ⟨hall, by simp at hy; omega⟩, hbo⟩
end Go.Proofs.Ytepkonhgkabkcaa
