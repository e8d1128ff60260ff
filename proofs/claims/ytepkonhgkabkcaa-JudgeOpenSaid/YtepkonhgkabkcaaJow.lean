/- JudgeOpen: the law's walk. No condition. -/
import Derived.Test.YtepkonhgkabkcaaJop
namespace Go.Proofs.Ytepkonhgkabkcaa
open Go.RowKit Go.Maps MapI
set_option linter.unusedVariables false
set_option linter.unusedSimpArgs false

theorem own_rises {s : JSt} {a : Int} {r : Rc} (h : Rises s.opn) : Rises (ownJ s a r).1.opn := by
  unfold ownJ
  split
  · exact h.put
  · split
    · exact h.put
    · split
      · exact h.del
      · exact h.del
theorem entry_rises {s : JSt} {a : Int} {r : Rc} (h : Rises s.opn) : Rises (entryJ s a r).1.opn := by
  have hl : Rises (lastJ s a).opn := h
  unfold entryJ
  split
  · exact own_rises hl
  · split
    · exact h
    · split
      · exact h
      · exact h
theorem run_rises : ∀ (l : List En) {s : JSt}, Rises s.opn → Rises (runJ s l).opn
  | [], _, h => h
  | x :: r, _, h => run_rises r (entry_rises h)
theorem rowsJ_get {l : List (Int × JTx)} : ∀ {i : Nat} {p : Int × JTx}, l[i]? = some p → (rowsJ l)[i * 3]? = some (.int .i64 p.2.num) ∧ (rowsJ l)[i * 3 + 1]? = some (.int .i64 p.2.first) ∧ (rowsJ l)[i * 3 + 2]? = some (.int .i64 p.2.last) := by
  induction l with
  | nil => intro i p h; simp at h
  | cons q t ih =>
    intro i p h
    cases i with
    | zero => simp at h; subst h; simp [rowsJ]
    | succ i =>
      simp at h
      have := ih h
      unfold rowsJ at this ⊢
      rw [List.flatMap_cons]
      refine ⟨?_, ?_, ?_⟩
      · rw [List.getElem?_append_right (by simp; omega)]; simpa [show (i + 1) * 3 - 3 = i * 3 from by omega] using this.1
      · rw [List.getElem?_append_right (by simp; omega)]; simpa [show (i + 1) * 3 + 1 - 3 = i * 3 + 1 from by omega] using this.2.1
      · rw [List.getElem?_append_right (by simp; omega)]; simpa [show (i + 1) * 3 + 2 - 3 = i * 3 + 2 from by omega] using this.2.2
theorem inTx_no {x : En} {n : Int} (h : inTx x n = false) : x.2.kind < 1 ∨ (1 ≤ x.2.kind ∧ 4 < x.2.kind) ∨ (1 ≤ x.2.kind ∧ x.2.kind ≤ 4 ∧ x.2.txn ≠ n) := by
  unfold inTx at h
  by_cases h1 : 1 ≤ x.2.kind
  · by_cases h4 : x.2.kind ≤ 4
    · refine .inr (.inr ⟨h1, h4, fun e => ?_⟩)
      simp [h1, h4, e] at h
    · exact .inr (.inl ⟨h1, by omega⟩)
  · exact .inl (by omega)
theorem inTx_yes {x : En} {n : Int} (h : inTx x n = true) : 1 ≤ x.2.kind ∧ x.2.kind ≤ 4 ∧ x.2.txn = n := by
  unfold inTx at h
  simpa using h
theorem lastA_le (n : Int) (es : List En) : ∀ i, (lastA n es i).1 ≤ i
  | 0 => Nat.le_refl _
  | i + 1 => by
    have := lastA_le n es i
    show (match es[i]? with | some x => if inTx x n then (i, decide (3 ≤ x.2.kind)) else lastA n es i | none => lastA n es i).1 ≤ _
    split
    · split
      · exact Nat.le_succ _
      · omega
    · omega

set_option maxHeartbeats 2000000 in
set_option maxRecDepth 100000 in
theorem judgeOpen_calls {w : World} {A : Option Addr} {b o c : Nat} {es : List En} (hL : Lst w A b o es) (hin : ∀ x ∈ es, EnIn x) (hlen : es.length ≤ maxLen) :
    Calls Try.prog 5 #[.slice A es.length c] w fun e w' => e = .returned (.bool true) ∧ Below w.heap.size w w' := by
  go_enter Try.func5, Try.ntmps5
  go_wp2_with (first | (go_at_call 13; refine (awakeJ_calls _).mono ?_; rintro e w1 ⟨rfl, b1⟩))
  go_at_call 14
  refine (few_calls (hL.below b1) hin hlen).mono ?_
  rintro e w2 ⟨y, rfl, hy, b2⟩
  have hB2 := b1.trans (b2.mono b1.size)
  cases y
  · go_wp2_with (first | (go_at_call 13; refine (awakeJ_calls _).mono ?_; rintro e w3 ⟨rfl, b3⟩))
    go_ret
    exact ⟨rfl, hB2.trans (b3.mono hB2.size)⟩
  · obtain ⟨hok, h200⟩ := hy rfl
    have hL2 := (hL.below b1).below b2
    go_wp2_with fail
    go_at_call 17
    refine (open_calls hL2 hok (by omega)).mono ?_
    rintro e w3 ⟨v3, rfl, hv3, b3⟩
    have hB3 := hB2.trans (b3.mono hB2.size)
    have hL3 := hL2.below b3
    have hfull := op_full es
    have hris := run_rises es (s := st0) (by simp [Rises, st0])
    obtain ⟨ps, hps⟩ : ∃ ps, ps = (runJ st0 es).opn := ⟨_, rfl⟩
    rw [← hps] at hv3 hfull hris
    clear hps hy hL2
    obtain ⟨A3, cap3, rfl, -, -⟩ := (Cut.form (.inl hv3))
    have HF := Lib.hid hfull
    clear hfull
    have hpl : ps.length ≤ maxLen := by
      obtain ⟨A, c2, h1, h2, h3⟩ := Cut.form (.inl hv3)
      omega
    unfold maxLen at hpl
    go_wp2_with fail
    go_loopg [22, 4] ps.length (fun k iv sv wr => ∃ i : Nat, i + k = ps.length ∧ iv = .int .i64 i ∧ Below w3.heap.size w3 wr)
    case atStart => exact ⟨0, by omega, rfl, Below.refl _ _⟩
    case round =>
      obtain ⟨wo, rfl⟩ : ∃ wo : World, wo = wr := ⟨_, rfl⟩
      obtain ⟨ko, rfl⟩ : ∃ ko : Nat, ko = gk := ⟨_, rfl⟩
      obtain ⟨i, hik, rfl, hbo⟩ := hrel
      by_cases hlt : i < ps.length
      · obtain ⟨⟨n, t⟩, hp⟩ : ∃ p, ps[i]? = some p := ⟨_, List.getElem?_eq_getElem hlt⟩
        obtain ⟨g, cap4, hA3, -, -⟩ := Cut.formS (.inl hv3) (by omega)
        injection hA3 with hA3 _ hc4
        subst hA3 hc4
        have hmem := List.mem_of_getElem? hp
        obtain ⟨hnum, hend, x9, hx9, hlast⟩ := HF.out _ hmem
        dsimp only at hnum hend hx9 hlast
        obtain ⟨g0, g1, g2⟩ := rowsJ_get hp
        have c0 := keepc hbo (Cut.cells (.inl hv3) (g := g) rfl _ _ g0)
        have c1 := keepc hbo (Cut.cells (.inl hv3) (g := g) rfl _ _ g1)
        have c2 := keepc hbo (Cut.cells (.inl hv3) (g := g) rfl _ _ g2)
        dsimp only at c0 c1 c2
        have hz := hbo.size
        have b2 : (0 : Int) ≤ (i : Int) := by omega
        have b3 : (i : Int) < (ps.length : Int) := by omega
        have hlx : (lastA n es es.length).1 < es.length := (List.getElem?_eq_some_iff.1 hx9).1
        have HX9 := Lib.hid hx9
        have HP := Lib.hid hp
        have HE := Lib.hid hend
        have HLA := Lib.hid hlast
        clear hp g0 g1 g2 hx9 hend hmem hlast
        rw [hnum] at c0
        clear hnum
        have hne : es ≠ [] := by intro e; rw [e] at hlx; simp at hlx
        have hA := hL3.addr hne
        subst hA
        have hb := hL3.lt hne
        go_wp2_with fail
        obtain ⟨wt, hwt⟩ : ∃ wt : World, wt = wo.alloc (.cells #[.int .i64 n, .int .i64 t.first, .int .i64 t.last] 38) := ⟨_, rfl⟩
        have hbt : Below w3.heap.size w3 wt := by rw [hwt]; exact hbo.alloc hz _
        have ht0 : wt.cell? ⟨wo.heap.size, 0, none⟩ = some (.int .i64 n) := by rw [hwt]; exact cell_of_block (heap_alloc_new _ _) 0
        have ht2 : wt.cell? ⟨wo.heap.size, 2, none⟩ = some (.int .i64 t.last) := by rw [hwt]; exact cell_of_block (heap_alloc_new _ _) 2
        have htz : wo.heap.size < wt.heap.size := by rw [hwt]; simp
        rw [← hwt]
        clear hwt c0 c1 c2
        go_loopg [29, 6, 7] es.length (fun k jv lv ev wr => ∃ j : Nat, j + k = es.length ∧ jv = .int .i64 j ∧ lv = .int .i64 ((lastA n es j).1 : Nat) ∧ ev = .bool (lastA n es j).2 ∧ Below wt.heap.size wt wr)
        case atStart => exact ⟨0, by omega, rfl, rfl, rfl, Below.refl _ _⟩
        case round =>
          obtain ⟨wi, rfl⟩ : ∃ wi : World, wi = wr := ⟨_, rfl⟩
          obtain ⟨ki, rfl⟩ : ∃ ki : Nat, ki = gk := ⟨_, rfl⟩
          obtain ⟨j, hjk, rfl, rfl, rfl, hbi⟩ := hrel
          have q0 := keepc hbi ht0
          have q2 := keepc hbi ht2
          have hzz : wo.heap.size < wi.heap.size := Nat.lt_of_lt_of_le htz hbi.size
          by_cases hlj : j < es.length
          · obtain ⟨x, hx⟩ : ∃ x, es[j]? = some x := ⟨_, List.getElem?_eq_getElem hlj⟩
            have hxo := hok x (List.mem_of_getElem? hx)
            obtain ⟨d0, d1, d2, d3, d4, d5, d6, d7, d8, d9, d10, d11⟩ := ((hL3.at_ j x hx).of_block ((hbi.block _ (by have := hbt.size; omega)).trans (hbt.block _ hb))).cells
            obtain ⟨A1, n1, c1, e1⟩ := hxo.rec_.tx1
            obtain ⟨A2, n2, c2, e2⟩ := hxo.rec_.pg1
            rw [e1] at d10
            rw [e2] at d11
            have b4 : (0 : Int) ≤ (j : Int) := by omega
            have b5 : (j : Int) < (es.length : Int) := by omega
            have hzi := hbi.size
            obtain ⟨z1, hz1⟩ : ∃ z, z = (lastA n es j).1 := ⟨_, rfl⟩
            obtain ⟨z2, hz2⟩ : ∃ z, z = (lastA n es j).2 := ⟨_, rfl⟩
            rw [← hz1, ← hz2]
            have HX := Lib.hid hx
            have HZ1 := Lib.hid hz1
            have HZ2 := Lib.hid hz2
            clear hx e1 e2 hz1 hz2
            cases hin9 : inTx x n
            · have hno := inTx_no hin9
              have HI := Lib.hid hin9
              clear hin9
              rcases hno with k1 | ⟨k1, k2⟩ | ⟨k1, k2, k3⟩
              · have t1 : decide (1 ≤ x.2.kind) = false := decide_eq_false (by omega)
                go_wp2_with fail
                go_roundg (ki - 1)
                case measure => omega
                case rel => exact ⟨j + 1, by omega, by go_num, by rw [lastA_out HX.out HI.out, HZ1.out], by rw [lastA_out HX.out HI.out, HZ2.out], hbi.alloc hzi _⟩
              · have t1 : decide (1 ≤ x.2.kind) = true := decide_eq_true k1
                have t2 : decide (x.2.kind ≤ 4) = false := decide_eq_false (by omega)
                go_wp2_with fail
                go_roundg (ki - 1)
                case measure => omega
                case rel => exact ⟨j + 1, by omega, by go_num, by rw [lastA_out HX.out HI.out, HZ1.out], by rw [lastA_out HX.out HI.out, HZ2.out], hbi.alloc hzi _⟩
              · have t1 : decide (1 ≤ x.2.kind) = true := decide_eq_true k1
                have t2 : decide (x.2.kind ≤ 4) = true := decide_eq_true k2
                have t3 : (x.2.txn == n) = false := by simpa using k3
                go_wp2_with fail
                go_roundg (ki - 1)
                case measure => omega
                case rel => exact ⟨j + 1, by omega, by go_num, by rw [lastA_out HX.out HI.out, HZ1.out], by rw [lastA_out HX.out HI.out, HZ2.out], hbi.alloc hzi _⟩
            · obtain ⟨k1, k2, k3⟩ := inTx_yes hin9
              have t1 : decide (1 ≤ x.2.kind) = true := decide_eq_true k1
              have t2 : decide (x.2.kind ≤ 4) = true := decide_eq_true k2
              have t3 : (x.2.txn == n) = true := by simp [k3]
              have HI := Lib.hid hin9
              clear hin9 k3
              go_wp2_with fail
              go_quiet (fail)
              go_wp2_with fail
              go_roundg (ki - 1)
              case measure => omega
              case rel => exact ⟨j + 1, by omega, by go_num, by rw [lastA_in HX.out HI.out], by rw [lastA_in HX.out HI.out], (hbi.alloc hzi _).trans ⟨rfl, rfl, rfl, Nat.le_refl _, fun _ _ => rfl⟩⟩
          · have hj2 : j = es.length := by omega
            subst hj2
            obtain ⟨z1, hz1⟩ : ∃ z, z = (lastA n es es.length).1 := ⟨_, rfl⟩
            obtain ⟨l9, l0⟩ := (hL3.at_ _ _ HX9.out).of_block ((hbi.block _ (by have := hbt.size; omega)).trans (hbt.block _ hb))
            rw [HLA.out] at l9
            rw [HE.out]
            rw [← hz1] at l9 hlx ⊢
            have HZ1 := Lib.hid hz1
            clear hz1 l0
            by_cases hi0 : i = 0
            · subst hi0
              have t1 : decide ((0 : Int) < ((0 : Nat) : Int)) = false := by decide
              go_wp2_with fail
              go_quiet (fail)
              go_wp2_with fail
              go_roundg (ko - 1)
              case measure => omega
              case rel => exact ⟨0 + 1, by omega, by go_num, (hbt.trans (hbi.mono hbt.size)).trans ⟨rfl, rfl, rfl, Nat.le_refl _, fun _ _ => rfl⟩⟩
            · have t1 : decide ((0 : Int) < (i : Int)) = true := decide_eq_true (by omega)
              obtain ⟨⟨m, u⟩, hm⟩ : ∃ p, ps[i - 1]? = some p := ⟨_, List.getElem?_eq_getElem (by omega)⟩
              obtain ⟨hmn, -⟩ := HF.out _ (List.mem_of_getElem? hm)
              obtain ⟨g0, -⟩ := rowsJ_get hm
              have cm := keepc hbi (keepc hbt (Cut.cells (.inl hv3) (g := g) rfl _ _ g0))
              dsimp only at cm hmn
              rw [hmn] at cm
              have hlt9 : m < n := by
                have h1 := List.pairwise_iff_getElem.1 hris (i - 1) i (by omega) hlt (by omega)
                rw [List.getElem?_eq_getElem (by omega)] at hm
                have h2 := HP.out
                rw [List.getElem?_eq_getElem hlt] at h2
                injection hm with hm
                injection h2 with h2
                rw [hm, h2] at h1
                exact h1
              have t2 : decide (n ≤ m) = false := decide_eq_false (by omega)
              clear hm hmn g0
              have s0 : 0 < i := by omega
              have s1 : IntKind.i64.wrap ((i : Int) - 1) = (i : Int) - 1 := IntWalk.i64_in _ (by omega)
              have s2 : (0 : Int) ≤ (i : Int) - 1 := by omega
              have s3 : (i : Int) - 1 < (ps.length : Int) := by omega
              have s4 : ((i : Int) - 1).toNat = i - 1 := by omega
              have s5 : (1 : Int) ≤ (i : Int) := by omega
              go_wp2_with fail
              go_quiet (fail)
              go_wp2_with fail
              go_roundg (ko - 1)
              case measure => omega
              case rel => exact ⟨i + 1, by omega, by go_num, (hbt.trans (hbi.mono hbt.size)).trans ⟨rfl, rfl, rfl, Nat.le_refl _, fun _ _ => rfl⟩⟩
      · go_wp2_with fail
        go_ret
        exact ⟨rfl, hB3.trans (hbo.mono hB3.size)⟩
end Go.Proofs.Ytepkonhgkabkcaa
