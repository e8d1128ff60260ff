/- Package chain: comparing, searching, begin, on, at. Condition: the list reads as entries. -/
import Derived.Test.YtepkonhgkabkcaaJawf
namespace Go.Proofs.Ytepkonhgkabkcaa
open Go.RowKit Go.Maps MapI
set_option linter.unusedVariables false
set_option linter.unusedSimpArgs false

def cmpI (a b : Int) : Int := if a < b then -1 else if b < a then 1 else 0
theorem isNaN_calls (a : Int) (w : World) : Calls Try.prog 108 #[.int .i64 a] w fun e w' => e = .returned (.bool false) ∧ w = w' := by
  go_enter Try.func108, Try.ntmps108
  go_wp2_with fail
  go_ret
  exact ⟨by simp, rfl⟩
theorem cmp_calls (a b : Int) (w : World) : Calls Try.prog 76 #[.int .i64 a, .int .i64 b] w fun e w' => e = .returned (.int .i64 (cmpI a b)) ∧ w = w' := by
  by_cases h1 : a < b
  · have e : cmpI a b = -1 := by unfold cmpI; rw [if_pos h1]
    rw [e]
    clear e
    go_enter Try.func76, Try.ntmps76
    go_wp2_with (go_at_call 108; refine (isNaN_calls _ _).mono ?_; rintro e w1 ⟨rfl, rfl⟩)
    go_ret
    exact ⟨rfl, rfl⟩
  · have t1 : decide (a < b) = false := decide_eq_false h1
    by_cases h2 : b < a
    · have e : cmpI a b = 1 := by unfold cmpI; rw [if_neg h1, if_pos h2]
      rw [e]
      clear e h1
      go_enter Try.func76, Try.ntmps76
      go_wp2_with (go_at_call 108; refine (isNaN_calls _ _).mono ?_; rintro e w1 ⟨rfl, rfl⟩)
      go_ret
      exact ⟨rfl, rfl⟩
    · have e : cmpI a b = 0 := by unfold cmpI; rw [if_neg h1, if_neg h2]
      have t2 : decide (b < a) = false := decide_eq_false h2
      rw [e]
      clear e h1 h2
      go_enter Try.func76, Try.ntmps76
      go_wp2_with (go_at_call 108; refine (isNaN_calls _ _).mono ?_; rintro e w1 ⟨rfl, rfl⟩)
      go_ret
      exact ⟨rfl, rfl⟩
theorem atCmp_calls (x : En) (place : Int) (w : World) (ht : ∃ A n c, x.2.txns = .slice A n c) (hp : ∃ A n c, x.2.pages = .slice A n c) :
    Calls Try.prog 163 #[.agg #[.int .i64 x.1, .int .i64 x.2.kind, .int .i64 x.2.txn, .int .i64 x.2.page, .int .i64 x.2.off, .int .i64 x.2.prev, .int .i64 x.2.next, .int .i64 x.2.begin_, .string x.2.before, .string x.2.after, x.2.txns, x.2.pages], .int .i64 place] w fun e w' => e = .returned (.int .i64 (cmpI x.1 place)) ∧ Below w.heap.size w w' := by
  obtain ⟨A1, n1, c1, e1⟩ := ht
  obtain ⟨A2, n2, c2, e2⟩ := hp
  rw [e1, e2]
  go_enter Try.func163, Try.ntmps163
  go_wp2_with (go_at_call 76; refine (cmp_calls _ _ _).mono ?_; rintro e w1 ⟨rfl, rfl⟩)
  go_ret
  exact ⟨rfl, (Below.refl _ _).alloc (Nat.le_refl _) _⟩
def Rise (es : List En) : Prop := es.Pairwise fun x y => x.1 < y.1
/-- The place where an entry stands, or would stand. -/
def Cutl (es : List En) (place : Int) (i : Nat) : Prop := i ≤ es.length ∧ (∀ k x, k < i → es[k]? = some x → x.1 < place) ∧ (∀ k x, i ≤ k → es[k]? = some x → place ≤ x.1)
def foundB (es : List En) (place : Int) (i : Nat) : Bool := match es[i]? with | some x => decide (x.1 = place) | none => false
def BsPost (w : World) (es : List En) (place : Int) (e : Ending) (w' : World) : Prop := ∃ i, Cutl es place i ∧ e = .returned (.tuple #[.int .i64 i, .bool (foundB es place i)]) ∧ Below w.heap.size w w'
theorem rise_lt {es : List En} (h : Rise es) {i j : Nat} {x y : En} (hx : es[i]? = some x) (hy : es[j]? = some y) (hij : i < j) : x.1 < y.1 := by
  obtain ⟨h1, rfl⟩ := List.getElem?_eq_some_iff.1 hx
  obtain ⟨h2, rfl⟩ := List.getElem?_eq_some_iff.1 hy
  exact List.pairwise_iff_getElem.1 h i j h1 h2 hij
def LoB (es : List En) (place : Int) (i : Nat) : Prop := ∀ k x, k < i → es[k]? = some x → x.1 < place
def HiB (es : List En) (place : Int) (j : Nat) : Prop := ∀ k x, j ≤ k → es[k]? = some x → place ≤ x.1
theorem loB_zero (es : List En) (place : Int) : LoB es place 0 := fun k x h => absurd h (Nat.not_lt_zero k)
theorem hiB_end (es : List En) (place : Int) : HiB es place es.length := fun k x h hx => by rw [List.getElem?_eq_none h] at hx; cases hx
theorem loB_up {es : List En} (hr : Rise es) {place : Int} {h : Nat} {x : En} (hx : es[h]? = some x) (hlt : x.1 < place) : LoB es place (h + 1) := fun k y hk hy => by
  rcases Nat.lt_or_ge k h with h1 | h1
  · have := rise_lt hr hy hx h1; omega
  · obtain rfl : k = h := by omega
    rw [hx] at hy; injection hy with hy; rw [← hy]; exact hlt
theorem hiB_down {es : List En} (hr : Rise es) {place : Int} {h : Nat} {x : En} (hx : es[h]? = some x) (hge : place ≤ x.1) : HiB es place h := fun k y hk hy => by
  rcases Nat.lt_or_ge h k with h1 | h1
  · have := rise_lt hr hx hy h1; omega
  · obtain rfl : k = h := by omega
    rw [hx] at hy; injection hy with hy; rw [← hy]; exact hge
set_option maxHeartbeats 2000000 in
set_option maxRecDepth 100000 in
theorem search_calls {w : World} {A : Option Addr} {b o c : Nat} {es : List En} {place : Int} (hL : Lst w A b o es) (hok : ∀ x ∈ es, EnOk x) (hr : Rise es) (hlen : es.length ≤ 1000000) :
    Calls Try.prog 162 #[.slice A es.length c, .int .i64 place, .func (.func 163) #[] #[]] w (BsPost w es place) := by
  go_enter Try.func162, Try.ntmps162
  go_wp2_with fail
  go_loopg [9, 10] es.length (fun k iv jv wr => ∃ i j : Nat, i ≤ j ∧ j ≤ es.length ∧ j - i ≤ k ∧ iv = .int .i64 i ∧ jv = .int .i64 j ∧ LoB es place i ∧ HiB es place j ∧ Below w.heap.size w wr)
  case atStart => exact ⟨0, es.length, by omega, by omega, by omega, rfl, rfl, loB_zero _ _, hiB_end _ _, Below.refl _ _⟩
  case round =>
    obtain ⟨wo, rfl⟩ : ∃ wo : World, wo = wr := ⟨_, rfl⟩
    obtain ⟨ko, rfl⟩ : ∃ ko : Nat, ko = gk := ⟨_, rfl⟩
    obtain ⟨i, j, hij, hjn, hk, rfl, rfl, hlo, hhi, hbo⟩ := hrel
    by_cases hlt : i < j
    · have hA := hL.addr (Lst.ne (i := i) (by omega))
      subst hA
      have hb := hL.lt (Lst.ne (i := i) (by omega))
      obtain ⟨x, hx⟩ : ∃ x, es[(i + j) / 2]? = some x := ⟨_, List.getElem?_eq_getElem (by omega)⟩
      have hxo := hok x (List.mem_of_getElem? hx)
      obtain ⟨d0, d1, d2, d3, d4, d5, d6, d7, d8, d9, d10, d11⟩ := ((hL.at_ _ x hx).of_block (hbo.block _ hb)).cells
      obtain ⟨A1, n1, c1, e1⟩ := hxo.rec_.tx1
      obtain ⟨A2, n2, c2, e2⟩ := hxo.rec_.pg1
      have HC := atCmp_calls x place wo hxo.rec_.tx1 hxo.rec_.pg1
      rw [e1] at d10 HC
      rw [e2] at d11 HC
      have HX := Lib.hid hx
      clear hx e1 e2
      by_cases hc : x.1 < place
      · have e3 : cmpI x.1 place = -1 := by unfold cmpI; rw [if_pos hc]
        rw [e3] at HC
        have HC := Lib.hid HC
        clear e3
        go_wp2_with (go_at_call 163; refine HC.out.mono ?_; rintro e w1 ⟨rfl, b1⟩)
        go_roundg (ko - 1)
        case measure => omega
        case rel => exact ⟨(i + j) / 2 + 1, j, by omega, by omega, by omega, by go_num, rfl, loB_up hr HX.out hc, hhi, hbo.trans (b1.mono hbo.size)⟩
      · have e3 : 0 ≤ cmpI x.1 place := by unfold cmpI; rw [if_neg hc]; split <;> omega
        obtain ⟨z, hz⟩ : ∃ z, z = cmpI x.1 place := ⟨_, rfl⟩
        rw [← hz] at HC e3
        have HC := Lib.hid HC
        have t1 : decide (z < 0) = false := decide_eq_false (by omega)
        clear e3 hz
        go_wp2_with (go_at_call 163; refine HC.out.mono ?_; rintro e w1 ⟨rfl, b1⟩)
        go_roundg (ko - 1)
        case measure => omega
        case rel => exact ⟨i, (i + j) / 2, by omega, by omega, by omega, rfl, by go_num, hlo, hiB_down hr HX.out (by omega), hbo.trans (b1.mono hbo.size)⟩
    · have hij' : i = j := by omega
      subst hij'
      have hcut : Cutl es place i := ⟨hjn, hlo, hhi⟩
      by_cases hn : i < es.length
      · have hA := hL.addr (Lst.ne hn)
        subst hA
        have hb := hL.lt (Lst.ne hn)
        obtain ⟨x, hx⟩ : ∃ x, es[i]? = some x := ⟨_, List.getElem?_eq_getElem (by omega)⟩
        have hxo := hok x (List.mem_of_getElem? hx)
        obtain ⟨d0, d1, d2, d3, d4, d5, d6, d7, d8, d9, d10, d11⟩ := ((hL.at_ _ x hx).of_block (hbo.block _ hb)).cells
        obtain ⟨A1, n1, c1, e1⟩ := hxo.rec_.tx1
        obtain ⟨A2, n2, c2, e2⟩ := hxo.rec_.pg1
        have HC := atCmp_calls x place wo hxo.rec_.tx1 hxo.rec_.pg1
        rw [e1] at d10 HC
        rw [e2] at d11 HC
        have hf : foundB es place i = (cmpI x.1 place == 0) := by
          unfold foundB cmpI
          rw [hx]
          have := hhi i x (Nat.le_refl _) hx
          rw [if_neg (by omega)]
          by_cases e : x.1 = place
          · simp [e]
          · rw [if_pos (by omega)]; simp [e]
        obtain ⟨z, hz⟩ : ∃ z, z = cmpI x.1 place := ⟨_, rfl⟩
        rw [← hz] at HC hf
        have HC := Lib.hid HC
        have HF := Lib.hid hf
        clear hx e1 e2 hz hf
        go_wp2_with (go_at_call 163; refine HC.out.mono ?_; rintro e w1 ⟨rfl, b1⟩)
        go_ret2
        exact ⟨i, hcut, by rw [HF.out]; rfl, hbo.trans (b1.mono hbo.size)⟩
      · have hf : foundB es place i = false := by unfold foundB; rw [List.getElem?_eq_none (by omega)]
        have HF := Lib.hid hf
        clear hf
        go_wp2_with fail
        go_ret2
        exact ⟨i, hcut, by rw [HF.out]; rfl, hbo⟩
end Go.Proofs.Ytepkonhgkabkcaa
