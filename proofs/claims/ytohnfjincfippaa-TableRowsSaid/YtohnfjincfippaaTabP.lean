/- The row of the law TableRows: for every script the law answers true, and the script reads as it did. No condition. -/
import Derived.Test.YtohnfjincfippaaRows
import Derived.Test.YtohnfjincfippaaTabL
import Derived.ProofKit
import Derived.OpenShut
import Derived.ShutString
import Derived.ChangeOld
import Derived.Deep.Slices
import Derived.Deep.Fields
import Derived.ChangeSame
namespace Go.Proofs.Ytohnfjincfippaa.tableRows
open Go.ChangeShapes Go.WideShapes Go.ChangeAt Go.RowKit Go.Deep
set_option linter.unusedVariables false

section
variable {H : Type} {enc : TypeId × Value → H} {P : Program} {w : World} {base : Nat} {spare : Nat → Bool} {held : Bool}
theorem open_slice_fields {t e : TypeId} {fs : Array Field} {fuel : Nat} {cs : List Value} {x : DataW H × List MemPlace} (ht : P.underlying t = some (.slice e)) (he : P.underlying e = some (.struct fs))
    (hone : oneCellFields P fs = true) (hC : P.cellsOf e = fs.size) (h : DataW.trod enc P w base spare held fuel t cs = some x) :
    (cs = [.slice none 0 0] ∧ x = (.nil, [])) ∨
    ∃ (a : Addr) (len cap m : Nat) (D : Nat → DataW H) (Pl : Nat → List MemPlace), cs = [.slice (some a) len cap] ∧ base ≤ a.block ∧ len ≤ cap ∧ cap ≤ maxLen ∧ m = (if spare a.block then cap else len) ∧
      x = (.slice ((List.range len).map D) ((List.range (m - len)).map fun j => D (len + j)), MemPlace.row a (m * fs.size) ++ (List.range m).flatMap Pl) ∧
      ∀ i, i < m → ∃ (ys : List (DataW H × List MemPlace)) (n : Nat), D i = .agg (ys.map (·.1)) ∧ Pl i = ys.flatMap (·.2) ∧ ys.length = fs.size ∧
        ∀ (j : Nat) (f : Field), fs[j]? = some f → ∃ (v : Value) (y : DataW H × List MemPlace), w.cell? (a.add (i * fs.size + j)) = some v ∧ ys[j]? = some y ∧ DataW.trod enc P w base spare held n f.type [v] = some y := by
  rcases open_slice ht h with h0 | ⟨a, len, cap, m, n, D, Pl, hcs, hb, hl, hm, hmm, hx, hi⟩
  · exact .inl h0
  · refine .inr ⟨a, len, cap, m, D, Pl, hcs, hb, hl, hm, hmm, by rw [hC] at hx; exact hx, fun i him => ?_⟩
    obtain ⟨cs', hc, ht'⟩ := hi i him
    rw [hC] at hc
    obtain ⟨ys, n', hn', hy, hlen, hyl, hf⟩ := DataW.trod_struct he ht'
    obtain ⟨_, hcl, hat⟩ := World.cells?_some hc
    simp only [Prod.mk.injEq] at hy
    refine ⟨ys, n', hy.1, hy.2, hyl, fun j f hj => ?_⟩
    obtain ⟨ho, hk⟩ := hone_of hone j f hj
    have hjl : j < fs.size := (Array.getElem?_eq_some_iff.1 hj).1
    have hcell := hat j hjl
    have hv : cs'[j]? = some (cs'[j]'(by omega)) := List.getElem?_eq_getElem (by omega)
    have h1 := hf j f hj
    rw [ho, hk] at h1
    have hone' : (cs'.drop j).take 1 = [cs'[j]'(by omega)] := by
      rw [List.drop_eq_getElem_cons (by omega)]
      rfl
    rw [hone'] at h1
    have hys : ys[j]? = some (ys[j]'(by omega)) := List.getElem?_eq_getElem (by omega)
    refine ⟨_, _, ?_, hys, h1.trans hys⟩
    rw [← Go.Deep.add_add, hcell, hv]
end

theorem own : ownKnob Try.prog.godebug = none := by kernel_rfl
theorem laidOut : laidOutB Try.prog = true := by kernel_rfl

theorem none_any {w : World} {A : Option Addr} {c : Nat} : Calls Try.prog 3 #[.slice A 0 c] w fun r w' => r = .returned (.bool true) ∧ Below w.heap.size w w' := by
  have hd3 : decide ((300 : Int) < ((0 : Nat) : Int)) = false := by decide
  go_enter Try.func3, Try.ntmps3
  go_wp2_with fail
  refine (awake_calls w).mono ?_
  rintro e w1 ⟨rfl, b1⟩
  go_wp2_with fail
  refine (new_calls w1).mono ?_
  rintro e w2 ⟨rfl, t2, b2⟩
  have z1 := b1.size
  go_wp2_with fail
  refine wp_loop_rounds 1 ?_
  rw [rounds_succ]
  go_wp2_with fail
  go_ret
  exact ⟨rfl, b1.trans (b2.mono z1)⟩
theorem big_any {w : World} {A : Option Addr} {n c : Nat} (hn : 300 < n) : Calls Try.prog 3 #[.slice A n c] w fun r w' => r = .returned (.bool true) ∧ Below w.heap.size w w' := by
  have hd3 : decide ((300 : Int) < (n : Int)) = true := by simp; omega
  have hd4 : (300 : Int) < (n : Int) := by omega
  go_enter Try.func3, Try.ntmps3
  go_wp2_with fail
  refine (awake_calls w).mono ?_
  rintro e w1 ⟨rfl, b1⟩
  have z1 := b1.size
  go_wp2_with fail
  refine (awake_calls w1).mono ?_
  rintro e w2 ⟨rfl, b2⟩
  go_wp2_with fail
  go_ret
  exact ⟨rfl, b1.trans (b2.mono z1)⟩

set_option maxRecDepth 100000 in
theorem lifted (os : Os) (started : os.Started) (H : Type) (enc : TypeId × Value → H) :
    ReturnsInHanded {} Try.checked os 3 .any (Rows.tableRowsSpec.pre6 enc Try.prog Try.f3 Rows.tableRowsRow.domain false) (Rows.tableRowsSpec.post enc Try.prog Try.f3 false true false false) := by
  refine returnsInHanded_of_change (C := Try.checked) own started (by kernel_rfl) Try.func3
    (ChangeSpec.witness6 (enc := enc) (C := Try.checked) false ⟨#[], #[.slice none 0 0], []⟩ 8 (by kernel_rfl) (by kernel_rfl) (by kernel_rfl) (by kernel_rfl)) ?_
  intro W base args ds gs before hval0 hW hcnd _
  have hval : ∀ (j : Nat) t v, Try.f3.params[j]? = some t → args[j]? = some v → Value.okWide Try.prog W .any base t v := hval0
  have hW' := hW
  obtain ⟨p, q, hA0, hV, rfl, hfz, hnd⟩ := hW
  have hA : DataW.TrodAll enc Try.prog W 0 (fun _ => true) true Try.f3.params.toList args.toList ds p := hA0
  rw [Try.params3] at hA hval
  obtain ⟨v0, vs0, d0, ds0, p0, q0, hargs, rfl, rfl, h0, r0⟩ := trodAll_cons hA
  obtain ⟨rfl, rfl, rfl⟩ := trodAll_nil r0
  obtain rfl : args = #[v0] := by cases args; simp_all
  obtain ⟨rfl, rfl⟩ := trodVars_none hV
  obtain ⟨a0, len0, cap0, rfl⟩ := okWide_slice Try.underlying22 (hval 0 22 v0 rfl rfl)
  have k0 := h0
  have lt0 : ∀ x ∈ p0, x.block < W.heap.size := by obtain ⟨m, hm⟩ := k0; exact DataW.trod_lt m _ _ _ hm
  have walk : Calls Try.prog 3 #[.slice a0 len0 cap0] W fun r w' => r = .returned (.bool true) ∧ Below W.heap.size W w' := by
    by_cases hz : len0 = 0
    · subst hz; exact none_any
    by_cases hb : 300 < len0
    · exact big_any hb
    obtain ⟨fuel, hf⟩ := h0
    rcases open_slice_fields Try.underlying22 Try.underlying27 (by kernel_rfl) (by kernel_rfl) hf with ⟨hcs, _⟩ | ⟨a, l, c, m, D, Pl, hcs, _, hl, hm, hmm, hx, hi⟩
    · simp [Value.cells] at hcs; omega
    · simp [Value.cells] at hcs
      obtain ⟨rfl, rfl, rfl⟩ := hcs
      have hml : len0 ≤ m := by rw [hmm]; split <;> omega
      have hone : ∀ i, i < len0 → ∃ x : Int × Int × Int, W.cell? (a.add (i * 3)) = some (.int .i64 x.1) ∧ W.cell? (a.add (i * 3 + 1)) = some (.int .i64 x.2.1) ∧ W.cell? (a.add (i * 3 + 2)) = some (.int .i64 x.2.2) ∧ (Lit.int .i64 x.2.1).wf = true := by
        intro i hil
        obtain ⟨ys, n, _, _, _, hg⟩ := hi i (by omega)
        obtain ⟨u0, y0, c0, _, t0⟩ := hg 0 _ rfl
        obtain ⟨u1, y1, c1, _, t1⟩ := hg 1 _ rfl
        obtain ⟨u2, y2, c2, _, t2⟩ := hg 2 _ rfl
        obtain ⟨x0, e0, _, _⟩ := DataW.trod_int Try.underlying3 t0
        obtain ⟨x1, e1, _, w1⟩ := DataW.trod_int Try.underlying3 t1
        obtain ⟨x2, e2, _, _⟩ := DataW.trod_int Try.underlying3 t2
        simp at e0 e1 e2
        subst e0; subst e1; subst e2
        exact ⟨(x0, x1, x2), c0, c1, c2, w1⟩
      obtain ⟨b, off, spot⟩ := a
      have hspot : spot = none := by
        obtain ⟨x, c0, _⟩ := hone 0 (by omega)
        simpa [Addr.add] using World.cell?_spot c0
      subst hspot
      have hadd : ∀ k, (⟨b, off, none⟩ : Addr).add k = ⟨b, off + k, none⟩ := fun k => by unfold Addr.add; split <;> simp_all
      have hone2 : ∀ i, i < len0 → ∃ x : Int × Int × Int, W.cell? ⟨b, off + i * 3, none⟩ = some (.int .i64 x.1) ∧ W.cell? ⟨b, off + i * 3 + 1, none⟩ = some (.int .i64 x.2.1) ∧ W.cell? ⟨b, off + i * 3 + 2, none⟩ = some (.int .i64 x.2.2) ∧ (Lit.int .i64 x.2.1).wf = true := fun i hil => by
        obtain ⟨x, c0, c1, c2, w1⟩ := hone i hil
        rw [hadd] at c0 c1 c2
        exact ⟨x, c0, by rw [Nat.add_assoc]; exact c1, by rw [Nat.add_assoc]; exact c2, w1⟩
      obtain ⟨f, hf⟩ : ∃ f : Nat → Int × Int × Int, ∀ i, i < len0 → W.cell? ⟨b, off + i * 3, none⟩ = some (.int .i64 (f i).1) ∧ W.cell? ⟨b, off + i * 3 + 1, none⟩ = some (.int .i64 (f i).2.1) ∧ W.cell? ⟨b, off + i * 3 + 2, none⟩ = some (.int .i64 (f i).2.2) ∧ (Lit.int .i64 (f i).2.1).wf = true := by
        refine ⟨fun i => if h : i < len0 then (hone2 i h).choose else (0, 0, 0), fun i hil => ?_⟩
        simp only [dif_pos hil]
        exact (hone2 i hil).choose_spec
      refine law_some (ops := (List.range len0).map f) ⟨by simp, fun i x hx => ?_⟩ (by omega)
      have hil : i < len0 := by
        have := (List.getElem?_eq_some_iff.1 hx).1
        simpa using this
      have hfx : f i = x := by simpa [hil] using hx
      rw [← hfx]
      exact hf i hil
  clear hA0 hval0
  refine walk.mono fun e W' ⟨he, bel⟩ => ?_
  subst he
  exact ⟨_, rfl, _, _, _, [], _, [], hW', trodAll_mk1 (shut_bool Try.underlying4 _), (trodAll_cons_mk (Below.trod laidOut (by kernel_rfl) (of_decide_eq_true (by kernel_rfl)) k0 bel lt0) trodAll_mk0), rfl, bel.frame _, fun h => by cases h⟩

theorem over : Rows.tableRowsRow.holds Try.pinned (OpenSpec.ofChange Rows.tableRowsSpec) :=
  OpenClaim.holds_of_wide 3 Try.f3 rfl rfl rfl rfl rfl rfl rfl ⟨rfl, rfl, rfl, rfl, rfl⟩ rfl rfl rfl rfl rfl (by kernel_rfl) Try.func3 (by kernel_rfl)
    (of_decide_eq_true (by kernel_rfl)) (by unfold Func.isWrapper; first | (rw [if_pos (by decide +kernel)]; kernel_rfl) | (rw [if_neg (by decide +kernel)]; exact ⟨rfl, rfl⟩))
    (fun os started H enc _ => lifted os started H enc)

theorem proved : Rows.TableRowsSaid := over
end Go.Proofs.Ytohnfjincfippaa.tableRows
