/- Package standby: Feed, Lag, Open. No condition. -/
import Derived.Test.YtepkonhgkabkcaaSb4
import Derived.Test.YtepkonhgkabkcaaSbk
namespace Go.Proofs.Ytepkonhgkabkcaa
open Go.RowKit Go.Maps MapI
set_option linter.unusedVariables false
set_option linter.unusedSimpArgs false

def feedStep (t : Sb × Nat) (x : En) : Sb × Nat := if t.1.upto < x.1 then (takeSb t.1 x, t.2 + 1) else t
def feedSb (s : Sb) (es : List En) : Sb × Nat := es.foldl feedStep (s, 0)
theorem feedSb_snoc (s : Sb) (es : List En) (x : En) : feedSb s (es ++ [x]) = feedStep (feedSb s es) x := by simp [feedSb]
theorem feedSb_len (s : Sb) (es : List En) : (feedSb s es).1.list.length ≤ s.list.length + es.length ∧ (feedSb s es).1.last.length ≤ s.last.length + es.length ∧ (feedSb s es).2 ≤ es.length := by
  have key : ∀ (es : List En) (t : Sb × Nat), (es.foldl feedStep t).1.list.length ≤ t.1.list.length + es.length ∧ (es.foldl feedStep t).1.last.length ≤ t.1.last.length + es.length ∧ (es.foldl feedStep t).2 ≤ t.2 + es.length := by
    intro es
    induction es with
    | nil => intro t; simp
    | cons x r ih =>
      intro t
      have := ih (feedStep t x)
      have h1 : (feedStep t x).1.list.length ≤ t.1.list.length + 1 ∧ (feedStep t x).1.last.length ≤ t.1.last.length + 1 ∧ (feedStep t x).2 ≤ t.2 + 1 := by
        unfold feedStep
        split
        · have := lastSb_len t.1.last x
          exact ⟨by simp [takeSb], by simpa [takeSb] using this, Nat.le_refl _⟩
        · exact ⟨by omega, by omega, by omega⟩
      simp only [List.foldl_cons, List.length_cons]
      omega
  have := key es (s, 0)
  simpa [feedSb] using this
/-- A row's block is the old one, or new. -/
def OwnNew (w : World) (lv lv' : Value) : Prop := ∀ k, lv'.ownBlock = some k → lv.ownBlock = some k ∨ w.heap.size ≤ k
theorem OwnNew.refl {w : World} {lv : Value} : OwnNew w lv lv := fun k hk => .inl hk
def FeedPost (w : World) (B sb pb mb cap : Nat) (lv : Value) (s : Sb) (n : Int) (c : Int) (e : Ending) (w' : World) : Prop :=
  e = .returned (.tuple #[.int .i64 n, .int .i64 c]) ∧ ∃ lv', SbAt w' B sb pb mb cap lv' s ∧ Frm (SbOwn sb pb mb lv) w w' ∧ OwnNew w lv lv'
theorem feed_nil (w : World) {A : Option Addr} {n c : Nat} : Calls Try.prog 36 #[.pointer none, .slice A n c] w fun e w' => e = .returned (.tuple #[.int .i64 0, .int .i64 10]) ∧ w = w' := by
  go_enter Try.func36, Try.ntmps36
  go_wp2_with fail
  go_ret2
  exact ⟨rfl, rfl⟩
set_option maxHeartbeats 2000000 in
set_option maxRecDepth 100000 in
theorem feed_bad {w : World} {B sb pb mb cap : Nat} {lv : Value} {s : Sb} {A : Option Addr} {b o c : Nat} {es : List En} (h : SbAt w B sb pb mb cap lv s) (hL : Lst w A b o es) (hlen : es.length ≤ 100000) (hR : ¬ Rise es) :
    Calls Try.prog 36 #[.pointer (some ⟨sb, 0, none⟩), .slice A es.length c] w (FeedPost w B sb pb mb cap lv s 0 3) := by
  go_enter Try.func36, Try.ntmps36
  go_wp2_with fail
  go_loopg [13] es.length (fun k iv wr => ∃ i : Nat, i + k = es.length ∧ iv = .int .i64 i ∧ fallB es i = false ∧ Below w.heap.size w wr)
  case atStart => exact ⟨0, by omega, rfl, rfl, Below.refl _ _⟩
  case round =>
    obtain ⟨wo, rfl⟩ : ∃ wo : World, wo = wr := ⟨_, rfl⟩
    obtain ⟨ko, rfl⟩ : ∃ ko : Nat, ko = gk := ⟨_, rfl⟩
    obtain ⟨i, hin, rfl, hfl, hbo⟩ := hrel
    by_cases hlt : i < es.length
    · have hA := hL.addr (Lst.ne hlt)
      subst hA
      have hb := hL.lt (Lst.ne hlt)
      obtain ⟨y, hy⟩ : ∃ y, es[i]? = some y := ⟨_, List.getElem?_eq_getElem hlt⟩
      have d0 := ((hL.at_ i y hy).of_block (hbo.block _ hb)).1
      have b2 : (0 : Int) ≤ (i : Int) := by omega
      have b3 : (i : Int) < (es.length : Int) := by omega
      have HFL := Lib.hid hfl
      clear hfl
      by_cases hi : i = 0
      · subst hi
        have HF := Lib.hid (fallB_one es)
        clear hy
        go_wp2_with fail
        go_quiet (fail)
        go_wp2_with fail
        go_roundg (ko - 1)
        case measure => omega
        case rel => exact ⟨0 + 1, by omega, by go_num, HF.out, hbo.trans (below_drewN _ _ _)⟩
      · obtain ⟨x, hx⟩ : ∃ x, es[i - 1]? = some x := ⟨_, List.getElem?_eq_getElem (by omega)⟩
        have q0 := ((hL.at_ _ x hx).of_block (hbo.block _ hb)).1
        have s0 : 0 < i := by omega
        have s1 : IntKind.i64.wrap ((i : Int) - 1) = (i : Int) - 1 := IntWalk.i64_in _ (by omega)
        have s2 : (0 : Int) ≤ (i : Int) - 1 := by omega
        have s3 : (i : Int) - 1 < (es.length : Int) := by omega
        have s4 : ((i : Int) - 1).toNat = i - 1 := by omega
        have s5 : (1 : Int) ≤ (i : Int) := by omega
        have hf : fallB es (i + 1) = (fallB es i || decide (y.1 ≤ x.1)) := by
          conv => lhs; unfold fallB
          rw [hx, hy]
          simp [s0]
        have HF := Lib.hid hf
        clear hf hx hy
        by_cases hc : y.1 ≤ x.1
        · have t1 : decide (y.1 ≤ x.1) = true := decide_eq_true hc
          go_wp2_with fail
          go_quiet (fail)
          rename_i nq
          go_wp2_with fail
          go_ret2
          have hb9 := hbo.trans (below_drewN w.heap.size wo nq)
          exact ⟨rfl, lv, h.below hb9, Frm.of_below hb9, fun k hk => .inl hk⟩
        · have t1 : decide (y.1 ≤ x.1) = false := decide_eq_false hc
          go_wp2_with fail
          go_quiet (fail)
          go_wp2_with fail
          go_roundg (ko - 1)
          case measure => omega
          case rel => exact ⟨i + 1, by omega, by go_num, by rw [HF.out, t1, HFL.out]; rfl, hbo.trans (below_drewN _ _ _)⟩
    · have hi2 : i = es.length := by omega
      rw [hi2] at hfl
      exact absurd (fallB_full.1 hfl) hR
set_option maxHeartbeats 4000000 in
set_option maxRecDepth 100000 in
theorem feed_ok {w : World} {B sb pb mb cap : Nat} {lv : Value} {s : Sb} {A : Option Addr} {b o c : Nat} {es : List En} (h : SbAt w B sb pb mb cap lv s) (hB : B ≤ w.heap.size) (hL : Lst w A b o es) (hok : ∀ x ∈ es, EnOk x) (hlen : es.length ≤ 1000) (hfew : s.list.length ≤ 90000 ∧ s.last.length ≤ 90000) (hR : Rise es) (hbS : es ≠ [] → ¬ SbOwn sb pb mb lv b) :
    Calls Try.prog 36 #[.pointer (some ⟨sb, 0, none⟩), .slice A es.length c] w (FeedPost w B sb pb mb cap lv (feedSb s es).1 (feedSb s es).2 0) := by
  go_enter Try.func36, Try.ntmps36
  go_wp2_with fail
  go_loopg [13, 4] es.length (fun k iv nv wr => ∃ i : Nat, i + k = es.length ∧ iv = .int .i64 i ∧ nv = .int .i64 0 ∧ Below w.heap.size w wr)
  case atStart => exact ⟨0, by omega, rfl, rfl, Below.refl _ _⟩
  case round =>
    obtain ⟨wo, rfl⟩ : ∃ wo : World, wo = wr := ⟨_, rfl⟩
    obtain ⟨ko, rfl⟩ : ∃ ko : Nat, ko = gk := ⟨_, rfl⟩
    obtain ⟨i, hin, rfl, rfl, hbo⟩ := hrel
    by_cases hlt : i < es.length
    · have hA := hL.addr (Lst.ne hlt)
      subst hA
      have hb := hL.lt (Lst.ne hlt)
      obtain ⟨y, hy⟩ : ∃ y, es[i]? = some y := ⟨_, List.getElem?_eq_getElem hlt⟩
      have d0 := ((hL.at_ i y hy).of_block (hbo.block _ hb)).1
      have b2 : (0 : Int) ≤ (i : Int) := by omega
      have b3 : (i : Int) < (es.length : Int) := by omega
      by_cases hi : i = 0
      · subst hi
        clear hy
        go_wp2_with fail
        go_quiet (fail)
        go_wp2_with fail
        go_roundg (ko - 1)
        case measure => omega
        case rel => exact ⟨0 + 1, by omega, by go_num, rfl, hbo.trans (below_drewN _ _ _)⟩
      · obtain ⟨x, hx⟩ : ∃ x, es[i - 1]? = some x := ⟨_, List.getElem?_eq_getElem (by omega)⟩
        have q0 := ((hL.at_ _ x hx).of_block (hbo.block _ hb)).1
        have hxy := rise_lt hR hx hy (by omega)
        have s0 : 0 < i := by omega
        have s1 : IntKind.i64.wrap ((i : Int) - 1) = (i : Int) - 1 := IntWalk.i64_in _ (by omega)
        have s2 : (0 : Int) ≤ (i : Int) - 1 := by omega
        have s3 : (i : Int) - 1 < (es.length : Int) := by omega
        have s4 : ((i : Int) - 1).toNat = i - 1 := by omega
        have s5 : (1 : Int) ≤ (i : Int) := by omega
        have t1 : decide (y.1 ≤ x.1) = false := decide_eq_false (by omega)
        clear hx hy
        go_wp2_with fail
        go_quiet (fail)
        go_wp2_with fail
        go_roundg (ko - 1)
        case measure => omega
        case rel => exact ⟨i + 1, by omega, by go_num, rfl, hbo.trans (below_drewN _ _ _)⟩
    · clear hin
      go_wp2_with fail
      go_loopg [35, 4] es.length (fun k iv nv wr => ∃ (i : Nat) (lv' : Value), i + k = es.length ∧ iv = .int .i64 i ∧ nv = .int .i64 ((feedSb s (es.take i)).2 : Nat) ∧ SbAt wr B sb pb mb cap lv' (feedSb s (es.take i)).1 ∧ Frm (SbOwn sb pb mb lv) w wr ∧ OwnNew w lv lv')
      case atStart => exact ⟨0, lv, by omega, rfl, rfl, h.below hbo, Frm.of_below hbo, OwnNew.refl⟩
      case round =>
        obtain ⟨wx, rfl⟩ : ∃ wx : World, wx = wr := ⟨_, rfl⟩
        obtain ⟨kx, rfl⟩ : ∃ kx : Nat, kx = gk := ⟨_, rfl⟩
        obtain ⟨j, lv', hjk, rfl, rfl, hS, hF, hN⟩ := hrel
        by_cases hlj : j < es.length
        · have hA := hL.addr (Lst.ne hlj)
          subst hA
          have hb := hL.lt (Lst.ne hlj)
          have hbb := hbS (Lst.ne hlj)
          obtain ⟨y, hy⟩ : ∃ y, es[j]? = some y := ⟨_, List.getElem?_eq_getElem hlj⟩
          have hyo := hok y (List.mem_of_getElem? hy)
          obtain ⟨d0, d1, d2, d3, d4, d5, d6, d7, d8, d9, d10, d11⟩ := ((hL.at_ j y hy).of_block (hF.block _ hb hbb)).cells
          obtain ⟨A1, n1, c1, e1⟩ := hyo.rec_.tx1
          obtain ⟨A2, n2, c2, e2⟩ := hyo.rec_.pg1
          rw [e1] at d10
          rw [e2] at d11
          have hfl := feedSb_len s (es.take j)
          have htl : (es.take j).length = j := by simp; omega
          rw [htl] at hfl
          have htk : feedSb s (es.take (j + 1)) = feedStep (feedSb s (es.take j)) y := by
            have : es.take (j + 1) = es.take j ++ [y] := by rw [List.take_add_one, hy]; rfl
            rw [this, feedSb_snoc]
          obtain ⟨t, ht⟩ : ∃ t, t = feedSb s (es.take j) := ⟨_, rfl⟩
          rw [← ht] at htk hfl hS ⊢
          obtain ⟨W, hW⟩ : ∃ W, W = wx.alloc (.cells #[.int .i64 y.1, .int .i64 y.2.kind, .int .i64 y.2.txn, .int .i64 y.2.page, .int .i64 y.2.off, .int .i64 y.2.prev, .int .i64 y.2.next, .int .i64 y.2.begin_, .string y.2.before, .string y.2.after, .slice A1 n1 c1, .slice A2 n2 c2] 32) := ⟨_, rfl⟩
          have hBW : Below wx.heap.size wx W := by rw [hW]; exact (Below.refl _ _).alloc (Nat.le_refl _) _
          have hSW := hS.below hBW
          have hwx := hF.size
          have hszW := hBW.size
          have hHU := fun (n : Nat) => upto_calls (w := W.drewN n) (hSW.below (below_drewN _ _ _))
          have hHT := fun (n : Nat) => take_calls (w := W.drewN n) (hSW.below (below_drewN _ _ _)) (show B ≤ W.heap.size by omega) hyo ⟨by omega, by omega⟩ e1 e2
          have HTK := Lib.hid htk
          have HBW := Lib.hid hBW
          have HSW := Lib.hid hSW
          have HWW := Lib.hid hW
          rw [hW] at hHU hHT
          have HU := Lib.hid hHU
          have HT := Lib.hid hHT
          have b2 : (0 : Int) ≤ (j : Int) := by omega
          have b3 : (j : Int) < (es.length : Int) := by omega
          have b4 : t.2 ≤ 1000 := by omega
          have hS' := Lib.hid hS
          clear htk hy ht e1 e2 hHU hHT hW hSW hS hBW hszW
          by_cases hup : t.1.upto < y.1
          · have t1 : decide (t.1.upto < y.1) = true := decide_eq_true hup
            go_wp2_with fail
            go_quiet ((go_at_call 38; exact Calls.quiet_of (HU.out _)))
            rename_i nq
            go_wp2_with fail
            go_at_call 87
            refine (HT.out _).mono ?_
            rintro e w9 ⟨⟨v9, rfl⟩, lv9, hS9, hF9, hN9⟩
            go_wp2_with fail
            go_roundg (kx - 1)
            case measure => omega
            case rel =>
              have hfs : feedSb s (es.take (j + 1)) = (takeSb t.1 y, t.2 + 1) := by rw [HTK.out]; unfold feedStep; rw [if_pos hup]
              have hWb := HBW.out
              rw [HWW.out] at hWb
              have hsz9 : wx.heap.size ≤ (wx.alloc (.cells #[.int .i64 y.1, .int .i64 y.2.kind, .int .i64 y.2.txn, .int .i64 y.2.page, .int .i64 y.2.off, .int .i64 y.2.prev, .int .i64 y.2.next, .int .i64 y.2.begin_, .string y.2.before, .string y.2.after, .slice A1 n1 c1, .slice A2 n2 c2] 32)).heap.size := hWb.size
              refine ⟨j + 1, lv9, by omega, by go_num, by rw [hfs]; go_num, by rw [hfs]; exact hS9, ?_, fun k hk => ?_⟩
              · have f1 : Frm (SbOwn sb pb mb lv) w ((wx.alloc (.cells #[.int .i64 y.1, .int .i64 y.2.kind, .int .i64 y.2.txn, .int .i64 y.2.page, .int .i64 y.2.off, .int .i64 y.2.prev, .int .i64 y.2.next, .int .i64 y.2.begin_, .string y.2.before, .string y.2.after, .slice A1 n1 c1, .slice A2 n2 c2] 32)).drewN nq) := hF.trans (S' := fun _ => False) (Frm.of_below (hWb.trans (below_drewN _ _ _))) (fun _ _ h => h.elim)
                refine f1.trans hF9 (fun k hk h => ?_)
                rcases h with h | h | h | h
                · exact .inl h
                · exact .inr (.inl h)
                · exact .inr (.inr (.inl h))
                · rcases hN k h with h2 | h2
                  · exact .inr (.inr (.inr h2))
                  · omega
              · rcases hN9 k hk with h2 | h2
                · exact hN k h2
                · refine .inr ?_
                  have h3 : (wx.alloc (.cells #[.int .i64 y.1, .int .i64 y.2.kind, .int .i64 y.2.txn, .int .i64 y.2.page, .int .i64 y.2.off, .int .i64 y.2.prev, .int .i64 y.2.next, .int .i64 y.2.begin_, .string y.2.before, .string y.2.after, .slice A1 n1 c1, .slice A2 n2 c2] 32)).heap.size ≤ k := h2
                  omega
          · have t1 : decide (t.1.upto < y.1) = false := decide_eq_false hup
            go_wp2_with fail
            go_quiet ((go_at_call 38; exact Calls.quiet_of (HU.out _)))
            rename_i nq
            go_wp2_with fail
            go_roundg (kx - 1)
            case measure => omega
            case rel =>
              have hfs : feedSb s (es.take (j + 1)) = t := by rw [HTK.out]; unfold feedStep; rw [if_neg (by omega)]
              have hWb := HBW.out
              rw [HWW.out] at hWb
              have hb9 := hWb.trans (below_drewN wx.heap.size _ nq)
              exact ⟨j + 1, lv', by omega, by go_num, by rw [hfs], by rw [hfs]; exact hS'.out.below hb9, hF.trans (S' := fun _ => False) (Frm.of_below hb9) (fun _ _ h => h.elim), hN⟩
        · have hj : es.take j = es := List.take_of_length_le (by omega)
          rw [hj] at hS ⊢
          go_wp2_with fail
          go_ret2
          exact ⟨rfl, lv', hS, hF, hN⟩
/-! ### Lag -/
def lagC (s : Sb) (es : List En) : Nat := (es.filter fun x => decide (s.upto < x.1)).length
theorem lag_nil (w : World) {A : Option Addr} {n c : Nat} : Calls Try.prog 47 #[.pointer none, .slice A n c] w fun e w' => e = .returned (.int .i64 0) ∧ w = w' := by
  go_enter Try.func47, Try.ntmps47
  go_wp2_with fail
  go_ret
  exact ⟨rfl, rfl⟩
set_option maxHeartbeats 4000000 in
set_option maxRecDepth 100000 in
theorem lag_calls {w : World} {B sb pb mb cap : Nat} {lv : Value} {s : Sb} {A : Option Addr} {b o c : Nat} {es : List En} (h : SbAt w B sb pb mb cap lv s) (hL : Lst w A b o es) (hok : ∀ x ∈ es, EnOk x) (hlen : es.length ≤ 1000) :
    Calls Try.prog 47 #[.pointer (some ⟨sb, 0, none⟩), .slice A es.length c] w fun e w' => e = .returned (.int .i64 (lagC s es : Nat)) ∧ Below w.heap.size w w' := by
  go_enter Try.func47, Try.ntmps47
  go_wp2_with fail
  go_loopg [11, 4] es.length (fun k iv nv wr => ∃ i : Nat, i + k = es.length ∧ iv = .int .i64 i ∧ nv = .int .i64 (lagC s (es.take i) : Nat) ∧ Below w.heap.size w wr)
  case atStart => exact ⟨0, by omega, rfl, rfl, Below.refl _ _⟩
  case round =>
    obtain ⟨wx, rfl⟩ : ∃ wx : World, wx = wr := ⟨_, rfl⟩
    obtain ⟨kx, rfl⟩ : ∃ kx : Nat, kx = gk := ⟨_, rfl⟩
    obtain ⟨j, hjk, rfl, rfl, hbo⟩ := hrel
    by_cases hlj : j < es.length
    · have hA := hL.addr (Lst.ne hlj)
      subst hA
      have hb := hL.lt (Lst.ne hlj)
      obtain ⟨y, hy⟩ : ∃ y, es[j]? = some y := ⟨_, List.getElem?_eq_getElem hlj⟩
      have hyo := hok y (List.mem_of_getElem? hy)
      obtain ⟨d0, d1, d2, d3, d4, d5, d6, d7, d8, d9, d10, d11⟩ := ((hL.at_ j y hy).of_block (hbo.block _ hb)).cells
      obtain ⟨A1, n1, c1, e1⟩ := hyo.rec_.tx1
      obtain ⟨A2, n2, c2, e2⟩ := hyo.rec_.pg1
      rw [e1] at d10
      rw [e2] at d11
      have htk : lagC s (es.take (j + 1)) = lagC s (es.take j) + (if s.upto < y.1 then 1 else 0) := by
        have : es.take (j + 1) = es.take j ++ [y] := by rw [List.take_add_one, hy]; rfl
        unfold lagC
        rw [this, List.filter_append, List.length_append]
        by_cases hc : s.upto < y.1 <;> simp [hc]
      have hll : lagC s (es.take j) ≤ 1000 := Nat.le_trans (List.length_filter_le _ _) (by simp; omega)
      obtain ⟨t, ht⟩ : ∃ t, t = lagC s (es.take j) := ⟨_, rfl⟩
      rw [← ht] at htk hll ⊢
      have hz := hbo.size
      have hHU := fun (n : Nat) => upto_calls (w := (wx.alloc (.cells #[.int .i64 y.1, .int .i64 y.2.kind, .int .i64 y.2.txn, .int .i64 y.2.page, .int .i64 y.2.off, .int .i64 y.2.prev, .int .i64 y.2.next, .int .i64 y.2.begin_, .string y.2.before, .string y.2.after, .slice A1 n1 c1, .slice A2 n2 c2] 32)).drewN n) (h.below ((hbo.alloc hz _).trans (below_drewN _ _ _)))
      have HU := Lib.hid hHU
      have HTK := Lib.hid htk
      have b2 : (0 : Int) ≤ (j : Int) := by omega
      have b3 : (j : Int) < (es.length : Int) := by omega
      clear htk hy ht e1 e2 hHU
      by_cases hup : s.upto < y.1
      · have t1 : decide (s.upto < y.1) = true := decide_eq_true hup
        go_wp2_with fail
        go_quiet ((go_at_call 38; exact Calls.quiet_of (HU.out _)))
        go_wp2_with fail
        go_roundg (kx - 1)
        case measure => omega
        case rel => exact ⟨j + 1, by omega, by go_num, by rw [HTK.out, if_pos hup]; go_num, (hbo.alloc hz _).trans (below_drewN _ _ _)⟩
      · have t1 : decide (s.upto < y.1) = false := decide_eq_false hup
        go_wp2_with fail
        go_quiet ((go_at_call 38; exact Calls.quiet_of (HU.out _)))
        go_wp2_with fail
        go_roundg (kx - 1)
        case measure => omega
        case rel => exact ⟨j + 1, by omega, by go_num, by rw [HTK.out, if_neg (by omega)]; rfl, (hbo.alloc hz _).trans (below_drewN _ _ _)⟩
    · have hj : es.take j = es := List.take_of_length_le (by omega)
      rw [hj]
      go_wp2_with fail
      go_ret
      exact ⟨rfl, hbo⟩
/-! ### Open -/
theorem openS_nil (w : World) : Calls Try.prog 41 #[.pointer none] w fun e w' => e = .returned (.slice none 0 0) ∧ w = w' := by
  go_enter Try.func41, Try.ntmps41
  go_wp2_with fail
  go_ret
  exact ⟨rfl, rfl⟩
def OpenSPost (w : World) (s : Sb) (e : Ending) (w' : World) : Prop := ∃ v, e = .returned v ∧ w'.ownsRow w.heap.size 3 1 v s.last.length ((s.last.map Prod.fst).map (Value.int .i64)) ∧ Below w.heap.size w w'
theorem openS_calls {w : World} {B sb pb mb cap : Nat} {lv : Value} {s : Sb} (h : SbAt w B sb pb mb cap lv s) : Calls Try.prog 41 #[.pointer (some ⟨sb, 0, none⟩)] w (OpenSPost w s) := by
  have c2 : w.cell? ⟨sb, 2, none⟩ = some (.map (some mb)) := cell_of_block h.blk 2
  have hS := sortedB_calls h.map (by have := h.few.2; omega)
  have HS := Lib.hid hS
  clear hS
  go_enter Try.func41, Try.ntmps41
  go_wp2_with (first
    | (go_at_call 89; refine (keysB_calls _ _).mono ?_; rintro e w3 ⟨rfl, rfl⟩)
    | (go_at_call 56; refine HS.out.mono ?_; rintro e w4 ⟨v, rfl, hrow, -, b4⟩))
  go_ret
  exact ⟨v, rfl, own_base hrow (by omega), ((Below.refl _ w).alloc (Nat.le_refl _) _).trans (b4.mono (by omega))⟩
end Go.Proofs.Ytepkonhgkabkcaa
