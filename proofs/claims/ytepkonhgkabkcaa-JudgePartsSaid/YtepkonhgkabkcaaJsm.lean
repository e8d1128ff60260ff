/- Rows of entries alike: careenref04.Same and SameAll, of the same records. Condition: the records' own rows are there. -/
import Derived.Test.YtepkonhgkabkcaaJawf
namespace Go.Proofs.Ytepkonhgkabkcaa
open Go.RowKit Go.Maps MapI
set_option linter.unusedVariables false
set_option linter.unusedSimpArgs false

/-- A slice whose elements are k numbers each, all there. -/
def Rdw (w : World) (v : Value) (k : Nat) : Prop := ∀ A n c, v = .slice A n c → n ≤ 9223372036854775807 ∧ ∀ i, i < n → ∃ b o, A = some ⟨b, o, none⟩ ∧ b < w.heap.size ∧ ∃ xs : List Int, xs.length = k ∧ ∀ j x, xs[j]? = some x → w.cell? ⟨b, o + i * k + j, none⟩ = some (.int .i64 x)
theorem Rdw.below {w w' : World} {v : Value} {k : Nat} (h : Rdw w v k) (hb : Below w.heap.size w w') : Rdw w' v k := fun A n c hv => by
  obtain ⟨h1, h2⟩ := h A n c hv
  refine ⟨h1, fun i hi => ?_⟩
  obtain ⟨b, o, e, hlt, xs, hx, hc⟩ := h2 i hi
  exact ⟨b, o, e, Nat.lt_of_lt_of_le hlt hb.size, xs, hx, fun j x hj => keepc hb (hc j x hj)⟩
structure Nst (w : World) (x : En) : Prop where
  tx : Rdw w x.2.txns 3
  pg : Rdw w x.2.pages 2
theorem Nst.below {w w' : World} {x : En} (h : Nst w x) (hb : Below w.heap.size w w') : Nst w' x := ⟨h.tx.below hb, h.pg.below hb⟩
theorem Rdw.three {w : World} {A : Option Addr} {n c : Nat} (h : Rdw w (.slice A n c) 3) {i : Nat} (hi : i < n) : ∃ b o, A = some ⟨b, o, none⟩ ∧ ∃ x y z : Int, w.cell? ⟨b, o + i * 3, none⟩ = some (.int .i64 x) ∧ w.cell? ⟨b, o + i * 3 + 1, none⟩ = some (.int .i64 y) ∧ w.cell? ⟨b, o + i * 3 + 2, none⟩ = some (.int .i64 z) := by
  obtain ⟨-, h2⟩ := h A n c rfl
  obtain ⟨b, o, e, hlt, xs, hx, hc⟩ := h2 i hi
  match xs, hx with
  | [x, y, z], _ => exact ⟨b, o, e, x, y, z, hc 0 x rfl, hc 1 y rfl, hc 2 z rfl⟩
theorem Rdw.two {w : World} {A : Option Addr} {n c : Nat} (h : Rdw w (.slice A n c) 2) {i : Nat} (hi : i < n) : ∃ b o, A = some ⟨b, o, none⟩ ∧ ∃ x y : Int, w.cell? ⟨b, o + i * 2, none⟩ = some (.int .i64 x) ∧ w.cell? ⟨b, o + i * 2 + 1, none⟩ = some (.int .i64 y) := by
  obtain ⟨-, h2⟩ := h A n c rfl
  obtain ⟨b, o, e, hlt, xs, hx, hc⟩ := h2 i hi
  match xs, hx with
  | [x, y], _ => exact ⟨b, o, e, x, y, hc 0 x rfl, hc 1 y rfl⟩
set_option maxHeartbeats 2000000 in
set_option maxRecDepth 100000 in
theorem sameR_calls (r : Rc) (w : World) (ht : ∃ A n c, r.txns = .slice A n c) (hp : ∃ A n c, r.pages = .slice A n c) (h3 : Rdw w r.txns 3) (h2 : Rdw w r.pages 2) :
    Calls Try.prog 55 #[.agg #[.int .i64 r.kind, .int .i64 r.txn, .int .i64 r.page, .int .i64 r.off, .int .i64 r.prev, .int .i64 r.next, .int .i64 r.begin_, .string r.before, .string r.after, r.txns, r.pages], .agg #[.int .i64 r.kind, .int .i64 r.txn, .int .i64 r.page, .int .i64 r.off, .int .i64 r.prev, .int .i64 r.next, .int .i64 r.begin_, .string r.before, .string r.after, r.txns, r.pages]] w fun e w' => e = .returned (.bool true) ∧ Below w.heap.size w w' := by
  obtain ⟨A1, n1, c1, e1⟩ := ht
  obtain ⟨A2, n2, c2, e2⟩ := hp
  rw [e1] at h3 ⊢
  rw [e2] at h2 ⊢
  have m1 := (h3 _ _ _ rfl).1
  have m2 := (h2 _ _ _ rfl).1
  clear e1 e2
  obtain ⟨ki, tx, pa, of, pr, ne, be, bf, af, t9, t10⟩ := r
  dsimp only
  have H3 := Lib.hid h3
  have H2 := Lib.hid h2
  clear h3 h2
  go_enter Try.func55, Try.ntmps55
  go_wp2_with fail
  obtain ⟨wt, hwt⟩ : ∃ wt : World, wt = (w.alloc (.cells #[.int .i64 ki, .int .i64 tx, .int .i64 pa, .int .i64 of, .int .i64 pr, .int .i64 ne, .int .i64 be, .string bf, .string af, .slice A1 n1 c1, .slice A2 n2 c2] 30)).alloc (.cells #[.int .i64 ki, .int .i64 tx, .int .i64 pa, .int .i64 of, .int .i64 pr, .int .i64 ne, .int .i64 be, .string bf, .string af, .slice A1 n1 c1, .slice A2 n2 c2] 30) := ⟨_, rfl⟩
  have hb0 : Below w.heap.size w wt := by rw [hwt]; exact ((Below.refl _ _).alloc (Nat.le_refl _) _).alloc (by simp) _
  have hc9 : wt.cell? ⟨w.heap.size, 9, none⟩ = some (.slice A1 n1 c1) := by rw [hwt]; exact cell_of_block (blk_new0 _ _ _) 9
  have hc10 : wt.cell? ⟨w.heap.size, 10, none⟩ = some (.slice A2 n2 c2) := by rw [hwt]; exact cell_of_block (blk_new0 _ _ _) 10
  have hd9 : wt.cell? ⟨w.heap.size + 1, 9, none⟩ = some (.slice A1 n1 c1) := by rw [hwt]; exact cell_of_block (blk_new1 _ _ _) 9
  have hd10 : wt.cell? ⟨w.heap.size + 1, 10, none⟩ = some (.slice A2 n2 c2) := by rw [hwt]; exact cell_of_block (blk_new1 _ _ _) 10
  have HK3 := Lib.hid (H3.out.below hb0)
  have HK2 := Lib.hid (H2.out.below hb0)
  rw [← hwt]
  clear hwt
  go_loopg [5] n1 (fun k iv wr => ∃ i : Nat, i + k = n1 ∧ iv = .int .i64 i ∧ ∃ q, wr = wt.drewN q)
  case atStart => exact ⟨0, by omega, rfl, 0, rfl⟩
  case round =>
    obtain ⟨wo, rfl⟩ : ∃ wo : World, wo = wr := ⟨_, rfl⟩
    obtain ⟨ko, rfl⟩ : ∃ ko : Nat, ko = gk := ⟨_, rfl⟩
    obtain ⟨i, hin, rfl, q, rfl⟩ := hrel
    by_cases hlt : i < n1
    · obtain ⟨b, o, rfl, x0, x1, x2, d0, d1, d2⟩ := HK3.out.three hlt
      have b2 : (0 : Int) ≤ (i : Int) := by omega
      have b3 : (i : Int) < (n1 : Int) := by omega
      go_wp2_with fail
      go_quiet (fail)
      go_wp2_with fail
      go_roundg (ko - 1)
      case measure => omega
      case rel => exact ⟨i + 1, by omega, by go_num, _, rfl⟩
    · go_wp2_with fail
      go_loopg [6] n2 (fun k iv wr => ∃ i : Nat, i + k = n2 ∧ iv = .int .i64 i ∧ ∃ q, wr = wt.drewN q)
      case atStart => exact ⟨0, by omega, rfl, _, rfl⟩
      case round =>
        obtain ⟨wx, rfl⟩ : ∃ wx : World, wx = wr := ⟨_, rfl⟩
        obtain ⟨kx, rfl⟩ : ∃ kx : Nat, kx = gk := ⟨_, rfl⟩
        obtain ⟨j, hjn, rfl, q, rfl⟩ := hrel
        by_cases hlj : j < n2
        · obtain ⟨b, o, rfl, x0, x1, d0, d1⟩ := HK2.out.two hlj
          have b2 : (0 : Int) ≤ (j : Int) := by omega
          have b3 : (j : Int) < (n2 : Int) := by omega
          go_wp2_with fail
          go_quiet (fail)
          go_wp2_with fail
          go_roundg (kx - 1)
          case measure => omega
          case rel => exact ⟨j + 1, by omega, by go_num, _, rfl⟩
        · go_wp2_with fail
          go_ret
          exact ⟨rfl, hb0.trans ⟨rfl, rfl, rfl, Nat.le_refl _, fun _ _ => rfl⟩⟩
/-- Two rows of the same entries. -/
theorem Lst.own {w : World} {B : Nat} {A : Option Addr} {n c : Nat} {es : List En} (h : w.ownsRow B 32 12 (.slice A n c) n (enCells es)) (hn : n = es.length) : ∃ b, Lst w A b 0 es := by
  subst hn
  by_cases hz : es = []
  · subst hz
    exact ⟨0, fun h => absurd rfl h, fun h => absurd rfl h, fun i x hx => by simp at hx⟩
  have hpos : 0 < es.length := List.length_pos_iff.2 hz
  obtain ⟨g, cap, e, -, -⟩ := Cut.formS (.inl h) hpos
  injection e with e1 e2 e3
  subst e1
  have hc := fun (j : Nat) (u : Value) (hu : (enCells es)[j]? = some u) => Cut.cells (.inl h) (g := g) rfl j u hu
  refine ⟨g, fun _ => rfl, fun _ => ?_, fun i x hx => ?_⟩
  · exact (Cut.lt (.inl h) g rfl).2
  · have key : ∀ j u, (Value.int .i64 x.1 :: rcCells x.2)[j]? = some u → w.cell? ⟨g, 0 + i * 12 + j, none⟩ = some u := fun j u hu => by
      rw [Nat.zero_add]; exact hc _ _ (enCells_get hx j u hu)
    refine ⟨key 0 _ rfl, fun j u hu => ?_⟩
    have := key (j + 1) u (by simpa using hu)
    rw [show 0 + i * 12 + 1 + j = 0 + i * 12 + (j + 1) from by omega]
    exact this
set_option maxHeartbeats 2000000 in
set_option maxRecDepth 100000 in
theorem sameAll_calls {w : World} {A1 A2 : Option Addr} {g1 o1 g2 o2 c1 c2 : Nat} {es : List En} (h1 : Lst w A1 g1 o1 es) (h2 : Lst w A2 g2 o2 es) (hok : ∀ x ∈ es, EnOk x) (hn : ∀ x ∈ es, Nst w x) (hlen : es.length ≤ 9223372036854775807) :
    Calls Try.prog 16 #[.slice A1 es.length c1, .slice A2 es.length c2] w fun e w' => e = .returned (.bool true) ∧ Below w.heap.size w w' := by
  go_enter Try.func16, Try.ntmps16
  go_wp2_with fail
  go_loopg [5] es.length (fun k iv wr => ∃ i : Nat, i + k = es.length ∧ iv = .int .i64 i ∧ Below w.heap.size w wr)
  case atStart => exact ⟨0, by omega, rfl, Below.refl _ _⟩
  case round =>
    obtain ⟨wo, rfl⟩ : ∃ wo : World, wo = wr := ⟨_, rfl⟩
    obtain ⟨ko, rfl⟩ : ∃ ko : Nat, ko = gk := ⟨_, rfl⟩
    obtain ⟨i, hin, rfl, hbo⟩ := hrel
    by_cases hlt : i < es.length
    · have hA1 := h1.addr (Lst.ne hlt)
      have hA2 := h2.addr (Lst.ne hlt)
      subst hA1 hA2
      have hb1 := h1.lt (Lst.ne hlt)
      have hb2 := h2.lt (Lst.ne hlt)
      obtain ⟨x, hx⟩ : ∃ x, es[i]? = some x := ⟨_, List.getElem?_eq_getElem hlt⟩
      have hxo := hok x (List.mem_of_getElem? hx)
      have hxn := hn x (List.mem_of_getElem? hx)
      obtain ⟨d0, d1, d2, d3, d4, d5, d6, d7, d8, d9, d10, d11⟩ := ((h1.at_ i x hx).of_block (hbo.block _ hb1)).cells
      obtain ⟨q0, q1, q2, q3, q4, q5, q6, q7, q8, q9, q10, q11⟩ := ((h2.at_ i x hx).of_block (hbo.block _ hb2)).cells
      have b2 : (0 : Int) ≤ (i : Int) := by omega
      have b3 : (i : Int) < (es.length : Int) := by omega
      obtain ⟨A1, n1, c1, e1⟩ := hxo.rec_.tx1
      obtain ⟨A2, n2, c2, e2⟩ := hxo.rec_.pg1
      have HC := sameR_calls x.2 wo.drew hxo.rec_.tx1 hxo.rec_.pg1 (hxn.tx.below (hbo.trans ⟨rfl, rfl, rfl, Nat.le_refl _, fun _ _ => rfl⟩)) (hxn.pg.below (hbo.trans ⟨rfl, rfl, rfl, Nat.le_refl _, fun _ _ => rfl⟩))
      rw [e1] at d10 q10 HC
      rw [e2] at d11 q11 HC
      have HC := Lib.hid HC
      clear hx e1 e2
      go_wp2_with fail
      go_still_tail 22, (by kernel_rfl)
      change wpList _ _ _ _ _ wo.drew
      go_wp2_with (first | (go_at_call 55; refine HC.out.mono ?_; rintro e w3 ⟨rfl, b3⟩))
      go_roundg (ko - 1)
      case measure => omega
      case rel => have b4 := Below.mono b3 hbo.size; exact ⟨i + 1, by omega, by go_num, hbo.trans ⟨b4.os, b4.tape, b4.output, b4.size, b4.block⟩⟩
    · go_wp2_with fail
      go_ret
      exact ⟨rfl, hbo⟩
end Go.Proofs.Ytepkonhgkabkcaa
