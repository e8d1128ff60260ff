/- Package chain: Undo. Condition: the list reads as entries. -/
import Derived.Test.YtepkonhgkabkcaaChn4
namespace Go.Proofs.Ytepkonhgkabkcaa
open Go.RowKit Go.Maps MapI Go.Shelf
set_option linter.unusedVariables false
set_option linter.unusedSimpArgs false
attribute [local go_sem] Oper.semAt_some

/-! ### a loop over an iterator whose body always goes on -/
section loop
variable {F : Fence} {n : Nat} {P : Program}
def recL (fn : FuncId) (tmps : Array Value) (ps : Array Tmp) (assign body : Code) (D : Nat) (st : LoopState) (pe : Option Code) : Loop := { state := st, pending := pe, fn, tmps, params := ps, assign, body, defers := D }
def onPost (P : Program) (l : Nat) (r : LoopState → Option Code → Loop) (R : Ending → World → Prop) : Exit → Act → World → Prop
  | .normal, _, w' => w'.heap[l]? = some (.loop (r .busy none)) ∧ R (.returned (.bool true)) (w'.putObj l (.loop (r .ready none)))
  | _, _, _ => False
theorem yieldAt_on {m l D : Nat} {W : World} {args : Array Value} {R : Ending → World → Prop} {fn : FuncId} {tmps : Array Value} {ps : Array Tmp} {assign body : Code} {rc : LoopState → Option Code → Loop} (hfn : F.fn fn) (hrc : rc = recL fn tmps ps assign body D)
    (hl : W.heap[l]? = some (.loop (rc .ready none))) (hs : args.size = ps.size)
    (h : assign.wpIn (F.inRound l) m P (Exit.then (fun a₁ w₁ => w₁.heap[l]? = some (.loop (rc .ready none)) ∧ body.wpIn (F.inRound l) m P (onPost P l rc R) a₁ (w₁.putObj l (.loop (rc .busy none)))) (fun _ _ _ => False))
      { tmps := (ps.zip args).foldl (fun t (p, v) => t.setIfInBounds p v) tmps, defers := [] } W) : YieldAt F m P l args W R := by
  subst hrc
  refine ⟨fn, _, assign, body, run_yield hl hs, roundIn_of_wpIn hfn (wpIn_mono h ?_)⟩
  intro e a w1 hq
  cases e with
  | normal =>
    obtain ⟨hl1, hb⟩ := hq
    refine ⟨_, run_beginRound hl1 rfl, wpIn_mono hb ?_⟩
    intro e2 a2 w2 hq2
    cases e2 with
    | normal =>
      obtain ⟨hl2, hR⟩ := hq2
      exact ⟨_, _, run_endRound none hl2, hR⟩
    | ret => exact hq2.elim
    | exit id => exact hq2.elim
    | goto t => exact hq2.elim
    | panic c => exact hq2.elim
    | outgrown => exact hq2.elim
  | ret => exact hq.elim
  | exit id => exact hq.elim
  | goto t => exact hq.elim
  | panic c => exact hq.elim
  | outgrown => exact hq.elim
theorem wpIn_rangeFunc_on {g : Operand} {ps : Array Tmp} {assign body : Code} {Q : Exit → Act → World → Prop} {a : Act} {w : World} (hro : F.round = none) (h1 : 1 ≤ n) {gf : Nat} {lb : Array Value} (hg : a.eval g = .func (.func gf) #[] lb) (hFg : F.fn gf) (eg : ∀ args w, (callFunc gf args).run P w = .ok (.enter gf args) w)
    (K : (LoopState → Option Code → Loop) → World → Prop)
    (hcall : ∀ rc : LoopState → Option Code → Loop, (∃ fn, F.fn fn ∧ rc = recL fn a.tmps ps assign body w.heap.size) → CallsIn F (n - 1) P gf (#[.func (.yield (w.heap.size + 1)) #[] #[]] ++ lb) ((w.alloc (.deferred (some []))).alloc (.loop (rc .ready none)))
      fun e W' => (∃ v, e = .returned v) ∧ W'.heap[w.heap.size + 1]? = some (.loop (rc .ready none)) ∧ K rc W')
    (hdone : ∀ (rc : LoopState → Option Code → Loop) W', K rc W' → W'.heap[w.heap.size + 1]? = some (.loop (rc .ready none)) →
      Q .normal { a with defers := { target := .collected w.heap.size, args := #[] } :: a.defers } (W'.putObj (w.heap.size + 1) (.loop (rc .exhausted none)))) :
    (Code.rangeFunc g ps assign body).wpIn F n P Q a w := by
  refine wpIn_rangeFunc ?_
  intro fn hfn
  rw [hro]
  refine ⟨w.heap.size + 1, [{ target := .collected w.heap.size, args := #[] }], ((w.alloc (.deferred (some []))).alloc (.loop (recL fn a.tmps ps assign body w.heap.size .ready none))), { target := .fn (.func gf) lb, args := #[.func (.yield (w.heap.size + 1)) #[] #[]] }, ((w.alloc (.deferred (some []))).alloc (.loop (recL fn a.tmps ps assign body w.heap.size .ready none))), gf,
    #[.func (.yield (w.heap.size + 1)) #[] #[]] ++ lb, ((w.alloc (.deferred (some []))).alloc (.loop (recL fn a.tmps ps assign body w.heap.size .ready none))), run_enterLoop_outer _ _ _ _ _, ?_, ?_, ?_, fun _ => h1, ?_⟩
  · simp only [resolve, hg]
    simp [go_sem]
  · intro f' hf'; simp [Target.leads] at hf'; subst hf'; exact hFg
  · simp [invoke, go_sem, eg]
  · refine (hcall _ ⟨fn, hfn, rfl⟩).mono ?_
    rintro e W' ⟨⟨v, rfl⟩, hl, hK⟩
    exact ⟨none, _, run_endLoop hl (by simp [recL]), hdone _ W' hK hl⟩
end loop
theorem wpListIn_append_lies {F : Fence} {n : Nat} {P : Program} (w : World) {ops : Array Oper} {rest : List Oper} {o : Oper} {a : Act} {Q : Exit → Act → World → Prop}
    (hg : o.guard = none) (s x : Operand) (t : TypeId) (hop : o.op = Op.call { callee := Callee.builtin Builtin.append, args := #[s, x], argTypes := #[t, t] })
    (base : Nat) (e : TypeId) (i : TypeInfo) (z : Value) (size bytes : Nat) (h1 : P.underlying t = some (.slice e)) (h2 : P.info? e = some i) (h3 : i.zero = some z) (h4 : i.size = size) (h5 : i.bytes = bytes) (h6 : z.cells.size = size) (h7 : 0 < size)
    (v : Value) (k : Nat) (xs : List Value) (hs : a.eval s = v) (hown : w.ownsRow base e size v k xs) (ad : Addr) (m c : Nat) (news : List Value) (hx : a.eval x = .slice (some ad) m c) (hn : news.length = m * size)
    (hc : ∀ j u, news[j]? = some u → w.cell? (ad.add j) = some u) (h1c : ∀ u ∈ news, u.oneCell' = true) (hm : 0 < m) (b1 : k + m ≤ maxLen) (b2 : (k + m) * bytes ≤ 140737488355328) (b3 : base ≤ w.heap.size)
    (hK : ∀ g cap w', w'.ownsRow base e size (.slice (some ⟨g, 0, none⟩) (k + m) cap) (k + m) (xs ++ news) → w.grownBy w' v.ownBlock → (v.ownBlock = some g ∨ g = w.heap.size) → g < w'.heap.size → wpListIn F n P ops Q rest (a.put o.dst (.slice (some ⟨g, 0, none⟩) (k + m) cap)) w') :
    wpListIn F n P ops Q (o :: rest) a w := by
  refine wpListIn_plain hg fun K hK' => ?_
  obtain ⟨g, cap, w', hrun, r1, r2, r3, r4⟩ := run_append_lies (P := P) w t o.type base e i z size bytes h1 h2 h3 h4 h5 h6 h7 v k xs hown ad m c news hn hc h1c hm b1 b2 b3 w.heap.size rfl
  unfold Oper.wpIn
  refine ⟨?_, ?_⟩
  · simp [Oper.about, hop, resolve, Target.leads, Sem.run_pure]
  · rw [Oper.semAt_plain F _ _ (by rw [hop]; intro c hc'; cases hc')]
    simp [execOp, hop, resolve, invoke, builtin, hs, hx, hrun, Result.andThen]
    exact hK' _ _ (hK g cap w' r1 r2 r3 r4)
/-! ### Undo, plainly -/
def undoR (txn : Int) (r : Rc) : Rc := ⟨2, txn, r.page, r.off, 0, r.prev, 0, ⟨#[]⟩, r.before, .slice none 0 0, .slice none 0 0⟩
def undosOf (txn : Int) (pre : List (Int × Rc)) : List Rc := (pre.filter fun x => x.2.kind == 1).map fun x => undoR txn x.2
def undoQ (es : List En) (txn last : Int) : List (Int × Rc) × Int := endQ es txn (if fallB es es.length then 3 else 0) last
def undoC (es : List En) (txn last : Int) : List Rc × Int := if (undoQ es txn last).2 = 0 then (undosOf txn (undoQ es txn last).1, 0) else ([], (undoQ es txn last).2)
theorem undosOf_snoc (txn : Int) (pre : List (Int × Rc)) (p : Int) (r : Rc) : undosOf txn (pre ++ [(p, r)]) = undosOf txn pre ++ (if (r.kind == 1) = true then [undoR txn r] else []) := by
  unfold undosOf
  rw [List.filter_append, List.map_append]
  cases h : (r.kind == 1) <;> simp [h]
theorem undosOf_len (txn : Int) (pre : List (Int × Rc)) : (undosOf txn pre).length ≤ pre.length := by unfold undosOf; rw [List.length_map]; exact List.length_filter_le _ _
theorem undosOf_ok {txn : Int} {pre : List (Int × Rc)} (ht : (Lit.int .i64 txn).wf = true) (h : ∀ x ∈ pre, RcOk x.2) : ∀ r ∈ undosOf txn pre, RcOk r := by
  intro r hr
  obtain ⟨x, hx, rfl⟩ := List.mem_map.1 hr
  have := h x (List.mem_filter.1 hx).1
  exact ⟨ht, by show (Lit.int .i64 0).wf = true; decide, by show (0 : Nat) ≤ 300; decide, this.bef, ⟨_, _, _, rfl⟩, ⟨_, _, _, rfl⟩⟩
/-- What Undo keeps between two rounds. -/
structure UJ (w : World) (N ub l D : Nat) (rc : LoopState → Option Code → Loop) (txn : Int) (es : List En) (pre : List (Int × Rc)) (W : World) : Prop where
  row : ∃ v, W.heap[ub]? = some (.cells #[v] 116 (0, 0)) ∧ W.ownsRow N tRc 11 v (undosOf txn pre).length (standCells (undosOf txn pre))
  rec_ : W.heap[l]? = some (.loop (rc .ready none))
  dfr : W.heap[D]? = some (.deferred (some []))
  tx : W.heap[w.heap.size]? = some (.cells #[.int .i64 txn] 3 (0, 0))
  bel : Below w.heap.size w W
  len : pre.length ≤ es.length
theorem UJ.step {w : World} {N ub l D pB wb : Nat} {rc : LoopState → Option Code → Loop} {txn : Int} {es : List En} {pre : List (Int × Rc)} {W W' : World} (h : UJ w N ub l D rc txn es pre W) (hs : Stp pB wb W W')
    (h1 : ub ≠ pB ∧ ub ≠ wb) (h2 : l ≠ pB ∧ l ≠ wb) (h3 : D ≠ pB ∧ D ≠ wb) (h4 : w.heap.size ≠ pB ∧ w.heap.size ≠ wb) (h5 : pB < N ∧ wb < N) (h6 : w.heap.size ≤ pB ∧ w.heap.size ≤ wb) : UJ w N ub l D rc txn es pre W' := by
  obtain ⟨v, hv, hr⟩ := h.row
  refine ⟨⟨v, (hs.block _ (lt_of_block hv) h1.1 h1.2).trans hv, ownsRow_block hr (fun k hk => ?_)⟩, ?_, ?_, (hs.block _ (lt_of_block h.tx) h4.1 h4.2).trans h.tx, ?_, h.len⟩
  · obtain ⟨g1, g2⟩ := Cut.lt (.inl hr) k hk
    exact hs.block _ g2 (by omega) (by omega)
  · exact (hs.block _ (Array.getElem?_eq_some_iff.1 h.rec_).1 h2.1 h2.2).trans h.rec_
  · exact (hs.block _ (Array.getElem?_eq_some_iff.1 h.dfr).1 h3.1 h3.2).trans h.dfr
  · exact h.bel.trans ⟨hs.os, hs.tape, hs.output, hs.size, fun k hk => hs.block k (by have := h.bel.size; omega) (by omega) (by omega)⟩
def UndoPost (w : World) (x : List Rc × Int) (e : Ending) (w' : World) : Prop := ∃ v, e = .returned (.tuple #[v, .int .i64 x.2]) ∧ w'.ownsRow w.heap.size tRc 11 v x.1.length (standCells x.1) ∧ Below w.heap.size w w'

theorem undo_round {P : Program} {w W Wd : World} {N ub l D : Nat} {rc : LoopState → Option Code → Loop} {txn p : Int} {es : List En} {pre : List (Int × Rc)} {r : Rc} {cs : Array Value} {a : Act} {v0 : Value}
    (hJ : UJ w N ub l D rc txn es pre W) (hv0 : W.heap[ub]? = some (.cells #[v0] 116 (0, 0))) (hr0 : W.ownsRow N tRc 11 v0 (undosOf txn pre).length (standCells (undosOf txn pre))) (hpl : pre.length < es.length)
    (hrow : ∃ v, Wd.heap[ub]? = some (.cells #[v] 116 (0, 0)) ∧ Wd.ownsRow N tRc 11 v (undosOf txn (pre ++ [(p, r)])).length (standCells (undosOf txn (pre ++ [(p, r)]))))
    (hoth : ∀ k, k < W.heap.size → k ≠ ub → k ≠ l → v0.ownBlock ≠ some k → Wd.heap[k]? = W.heap[k]?) (hl : Wd.heap[l]? = some (.loop (rc .busy none))) (hcs : Wd.heap[W.heap.size]? = some (.cells cs tRc (0, 0)))
    (hsz : W.heap.size ≤ Wd.heap.size) (hos : Wd.os = W.os ∧ Wd.tape = W.tape ∧ Wd.output = W.output) (hub : w.heap.size < ub ∧ ub < N ∧ N ≤ D ∧ D < l) (hNw : N ≤ W.heap.size) :
    onPost P l rc (fun e W' => e = .returned (.bool true) ∧ UJ w N ub l D rc txn es (pre ++ [(p, r)]) W' ∧ Kpp N ub W W' ∧ W'.heap[W.heap.size]? = some (.cells cs tRc (0, 0))) .normal a Wd := by
  have hll := (Array.getElem?_eq_some_iff.1 hl).1
  have hlW := (Array.getElem?_eq_some_iff.1 hJ.rec_).1
  have hnot : ∀ k (o : Obj), W.heap[k]? = some o → (∀ c t, o ≠ .cells c t (0, 0)) → v0.ownBlock ≠ some k := fun k o ho hne e => by
    obtain ⟨cur, hcur⟩ := own_typeR hr0 e
    rw [ho] at hcur
    injection hcur with hcur
    exact hne _ _ hcur
  have hlow : ∀ k, k < N → v0.ownBlock ≠ some k := fun k hk e => by
    have := (Cut.lt (.inl hr0) k e).1; omega
  have fin : ∀ k, k ≠ l → (Wd.putObj l (.loop (rc .ready none))).heap[k]? = Wd.heap[k]? := fun k hk => World.putObj_heap_other hk
  obtain ⟨v, hv, hr⟩ := hrow
  refine ⟨hl, rfl, ⟨⟨v, (fin _ (by omega)).trans hv, ownsRow_block hr (fun k hk => fin k ?_)⟩, World.putObj_heap_same hll, ?_, ?_, ?_, by simp; omega⟩, ⟨by simpa using hsz, fun k hk hne => ?_⟩, (fin _ (by omega)).trans hcs⟩
  · intro e
    obtain ⟨cur, hcur⟩ := own_typeR hr hk
    subst e
    rw [hl] at hcur; cases hcur
  · exact (fin _ (by omega)).trans ((hoth _ (by omega) (by omega) (by omega) (hnot _ _ hJ.dfr (by intro c t h; cases h))).trans hJ.dfr)
  · exact (fin _ (by omega)).trans ((hoth _ (by omega) (by omega) (by omega) (hlow _ (by omega))).trans hJ.tx)
  · have hb := hJ.bel
    exact ⟨hos.1.trans hb.os, hos.2.1.trans hb.tape, hos.2.2.trans hb.output, by have := hb.size; simp; omega, fun k hk => (fin k (by omega)).trans ((hoth k (by omega) (by omega) (by omega) (hlow k (by omega))).trans (hb.block k hk))⟩
  · exact (fin k (by omega)).trans (hoth k (by omega) hne (by omega) (hlow k hk))
theorem own_base {W : World} {B N : Nat} {e : TypeId} {s : Nat} {v : Value} {n : Nat} {xs : List Value} (h : W.ownsRow N e s v n xs) (hB : B ≤ N) : W.ownsRow B e s v n xs := by
  refine ⟨h.1, ?_⟩
  rcases h.2 with h2 | ⟨g, cap, cur, h1, h2, r⟩
  · exact .inl h2
  · exact .inr ⟨g, cap, cur, h1, Nat.le_trans hB h2, r⟩
/-- The function's end: the result's cell, the block for deferred calls shut. -/
theorem undo_end {w W9 : World} {ub D N n : Nat} {v v' : Value} {xs : List Value} (hv9 : W9.heap[ub]? = some (.cells #[v] 116 (0, 0))) (hd9 : W9.heap[D]? = some (.deferred (some []))) (hrow : W9.ownsRow N tRc 11 v' n xs) (hB : Below w.heap.size w W9) (h1 : w.heap.size ≤ ub) (h2 : ub < N) (h3 : N ≤ D) (k : Nat) :
    (((W9.setCell ⟨ub, 0, none⟩ v').drewN k).putObj D (.deferred none)).cell? ⟨ub, 0, none⟩ = some v' ∧ (((W9.setCell ⟨ub, 0, none⟩ v').drewN k).putObj D (.deferred none)).ownsRow w.heap.size tRc 11 v' n xs ∧ Below w.heap.size w (((W9.setCell ⟨ub, 0, none⟩ v').drewN k).putObj D (.deferred none)) ∧
    ((W9.setCell ⟨ub, 0, none⟩ v').drewN k).heap[D]? = some (.deferred (some [])) := by
  have hs := fun (j : Nat) (hj : j ≠ ub) => Below.heap_setCell W9 ⟨ub, 0, none⟩ v' j hj
  have hp := fun (j : Nat) (hj : j ≠ D) => World.putObj_heap_other (w := (W9.setCell ⟨ub, 0, none⟩ v').drewN k) (o := .deferred none) hj
  refine ⟨?_, ?_, ?_, (hs D (by omega)).trans hd9⟩
  · have := cell_of_block ((hp ub (by omega)).trans (setCell_block W9 ub 0 v' hv9)) 0
    exact this
  · refine own_base (ownsRow_block hrow (fun j hj => ?_)) (by omega : w.heap.size ≤ N)
    have := (Cut.lt (.inl hrow) j hj).1
    refine (hp j ?_).trans (hs j (by omega))
    intro e; subst e
    obtain ⟨cur, hcur⟩ := own_typeR hrow hj
    rw [hd9] at hcur; cases hcur
  · have b1 : Below w.heap.size w ((W9.setCell ⟨ub, 0, none⟩ v').drewN k) := (hB.setCell (p := ⟨ub, 0, none⟩) h1 v').trans (below_drewN _ _ _)
    exact b1.trans ⟨rfl, rfl, rfl, by simp, fun j hj => hp j (by omega)⟩
structure UStart (w w1 w3 : World) (A : Option Addr) (b o c : Nat) (es : List En) (txn last : Int) : Prop where
  it : ItSt w3 w1.heap.size (w1.heap.size + 1) (w1.heap.size + 1 + 1) (w.heap.size + 1 + 1 + 1) (w.heap.size + 1) (w1.heap.size + 1 + 1 + 1) (w.heap.size + 1 + 1) A b o c es txn last (if fallB es es.length then 3 else 0)
  ub : w3.heap[w.heap.size + 1 + 1]? = some (.cells #[.slice none 0 0] 116 (0, 0))
  tx : w3.heap[w.heap.size]? = some (.cells #[.int .i64 txn] 3 (0, 0))
  bel : Below w.heap.size w w3
  sz : w3.heap.size = w1.heap.size + 1 + 1 + 1
  lo : w.heap.size + 1 + 1 + 1 < w1.heap.size
theorem undo_start {w w1 : World} {A : Option Addr} {b o c : Nat} {es : List En} {txn last : Int} (hL : Lst w A b o es) (b1 : Below (((w.alloc (.cells #[.int .i64 txn] 3)).alloc (.cells #[.int .i64 0] 3)).alloc (.cells #[.slice none 0 0] 116)).heap.size (((w.alloc (.cells #[.int .i64 txn] 3)).alloc (.cells #[.int .i64 0] 3)).alloc (.cells #[.slice none 0 0] 116)) w1)
    (hk1 : w1.heap[w.heap.size + 1 + 1 + 1]? = some (.cells (wkCells (.slice A es.length c) txn (.pointer none) (if fallB es es.length then 3 else 0)) tWk (0, 0))) :
    UStart w w1 ((((w1.setCell ⟨w.heap.size + 1 + 1 + 1, 2, none⟩ (.pointer (some ⟨w.heap.size + 1, 0, none⟩))).alloc (.cells #[.pointer (some ⟨w.heap.size + 1 + 1 + 1, 0, none⟩)] 194)).alloc (.cells #[.int .i64 last] 3)).alloc (.cells #[.bool true] 4)) A b o c es txn last := by
  have hB3 : Below w.heap.size w (((w.alloc (.cells #[.int .i64 txn] 3)).alloc (.cells #[.int .i64 0] 3)).alloc (.cells #[.slice none 0 0] 116)) := (((Below.refl _ w).alloc (Nat.le_refl _) _).alloc (by simp) _).alloc (by simp; omega) _
  have k0 : (((w.alloc (.cells #[.int .i64 txn] 3)).alloc (.cells #[.int .i64 0] 3)).alloc (.cells #[.slice none 0 0] 116)).heap[w.heap.size]? = some (.cells #[.int .i64 txn] 3 (0, 0)) := blk_new20 w _ _ _
  have k1 : (((w.alloc (.cells #[.int .i64 txn] 3)).alloc (.cells #[.int .i64 0] 3)).alloc (.cells #[.slice none 0 0] 116)).heap[w.heap.size + 1]? = some (.cells #[.int .i64 0] 3 (0, 0)) := alloc_blk (blk_new1 w _ _) _
  have k2 : (((w.alloc (.cells #[.int .i64 txn] 3)).alloc (.cells #[.int .i64 0] 3)).alloc (.cells #[.slice none 0 0] 116)).heap[w.heap.size + 1 + 1]? = some (.cells #[.slice none 0 0] 116 (0, 0)) := blk_new2 w _ _ _
  obtain ⟨wz, hwz⟩ : ∃ wz, wz = (((w.alloc (.cells #[.int .i64 txn] 3)).alloc (.cells #[.int .i64 0] 3)).alloc (.cells #[.slice none 0 0] 116)) := ⟨_, rfl⟩
  have hzz : wz.heap.size = w.heap.size + 1 + 1 + 1 := by rw [hwz]; simp
  rw [← hwz] at b1 hB3 k0 k1 k2
  clear hwz
  have hlt1 := lt_of_block hk1
  have k0' := (b1.block _ (by omega)).trans k0
  have k1' := (b1.block _ (by omega)).trans k1
  have k2' := (b1.block _ (by omega)).trans k2
  obtain ⟨ws, hws⟩ : ∃ ws, ws = (w1.setCell ⟨w.heap.size + 1 + 1 + 1, 2, none⟩ (.pointer (some ⟨w.heap.size + 1, 0, none⟩))) := ⟨_, rfl⟩
  have hbs : ∀ k, k ≠ w.heap.size + 1 + 1 + 1 → ws.heap[k]? = w1.heap[k]? := fun k hk => by rw [hws]; exact Below.heap_setCell _ _ _ _ hk
  have hzs : ws.heap.size = w1.heap.size := by rw [hws]; simp [World.setCell]
  have hks : ws.heap[w.heap.size + 1 + 1 + 1]? = some (.cells (wkCells (.slice A es.length c) txn (.pointer (some ⟨w.heap.size + 1, 0, none⟩)) (if fallB es es.length then 3 else 0)) tWk (0, 0)) := by
    rw [hws]; exact (setCell_block _ _ _ _ hk1).trans (by unfold wkCells; rfl)
  have hBs : Below w.heap.size w ws := by rw [hws]; exact (hB3.trans (b1.mono hB3.size)).setCell (p := ⟨w.heap.size + 1 + 1 + 1, 2, none⟩) (by show w.heap.size ≤ w.heap.size + 1 + 1 + 1; omega) _
  rw [← hws]
  clear hws
  have c0 := (hbs _ (by omega)).trans k0'
  have c1 := (hbs _ (by omega)).trans k1'
  have c2 := (hbs _ (by omega)).trans k2'
  have hm0 := blk_new20 ws (.cells #[.pointer (some ⟨w.heap.size + 1 + 1 + 1, 0, none⟩)] 194) (.cells #[.int .i64 last] 3) (.cells #[.bool true] 4)
  have hm1 := alloc_blk (blk_new1 ws (.cells #[.pointer (some ⟨w.heap.size + 1 + 1 + 1, 0, none⟩)] 194) (.cells #[.int .i64 last] 3)) (.cells #[.bool true] 4)
  have hm2 := blk_new2 ws (.cells #[.pointer (some ⟨w.heap.size + 1 + 1 + 1, 0, none⟩)] 194) (.cells #[.int .i64 last] 3) (.cells #[.bool true] 4)
  have hBz : Below w.heap.size w (((ws.alloc (.cells #[.pointer (some ⟨w.heap.size + 1 + 1 + 1, 0, none⟩)] 194)).alloc (.cells #[.int .i64 last] 3)).alloc (.cells #[.bool true] 4)) := ((hBs.alloc hBs.size _).alloc (by have := hBs.size; simp; omega) _).alloc (by have := hBs.size; simp; omega) _
  rw [hzs] at hm0 hm1 hm2
  have old : ∀ (k : Nat) (x : Obj), ws.heap[k]? = some x → (((ws.alloc (.cells #[.pointer (some ⟨w.heap.size + 1 + 1 + 1, 0, none⟩)] 194)).alloc (.cells #[.int .i64 last] 3)).alloc (.cells #[.bool true] 4)).heap[k]? = some x := fun k x hx => alloc_blk (alloc_blk (alloc_blk hx _) _) _
  have hz3 : (((ws.alloc (.cells #[.pointer (some ⟨w.heap.size + 1 + 1 + 1, 0, none⟩)] 194)).alloc (.cells #[.int .i64 last] 3)).alloc (.cells #[.bool true] 4)).heap.size = w1.heap.size + 1 + 1 + 1 := by simp [hzs]
  exact ⟨⟨hm0, hm1, hm2, old _ _ hks, old _ _ c1, hL.below (hBz.mono (Nat.le_refl _)), fun hne => (by have := hL.lt hne; omega), (by omega), (by omega), (by omega), Nat.le_of_eq hz3.symm⟩, old _ _ c2, old _ _ c0, hBz, hz3, hlt1⟩
set_option maxHeartbeats 4000000 in
set_option maxRecDepth 100000 in
theorem chUndo_calls {w : World} {A : Option Addr} {b o c : Nat} {es : List En} {txn last : Int} (hL : Lst w A b o es) (hok : ∀ x ∈ es, EnOk x) (ht : (Lit.int .i64 txn).wf = true) (hlen : es.length ≤ 1000000) :
    Calls Try.prog 81 #[.slice A es.length c, .int .i64 txn, .int .i64 last, .int .i64 0] w (UndoPost w (undoC es txn last)) := by
  obtain ⟨i0, hi, hz0, hz1, hz2⟩ := info_parts infoRc
  have HQ := Lib.hid (show undoC es txn last = if (undoQ es txn last).2 = 0 then (undosOf txn (undoQ es txn last).1, 0) else ([], (undoQ es txn last).2) from rfl)
  have hB3 : Below w.heap.size w (((w.alloc (.cells #[.int .i64 txn] 3)).alloc (.cells #[.int .i64 0] 3)).alloc (.cells #[.slice none 0 0] 116)) := (((Below.refl _ w).alloc (Nat.le_refl _) _).alloc (by simp) _).alloc (by simp; omega) _
  have HC := Lib.hid (chBegin_calls (c := c) (txn := txn) (hL.below hB3) hlen)
  refine (callsIn_wide (n := 3)).1 ?_
  refine callsIn_of_wp_marks Try.func81 rfl trivial ?_ rfl
  simp only [Try.ntmps81, List.size_toArray, List.length_cons, List.length_nil, Nat.reduceAdd, Nat.reduceSub, Array.replicate_succ, Array.replicate_zero, List.push_toArray, List.append_toArray, List.nil_append, List.cons_append]
  gi_wp2_with (first | (refine ⟨trivial, ?_⟩; gi_at_call 114; refine (callsIn_wide.2 HC.out).mono ?_; rintro e w1 ⟨rfl, hk1, b1⟩; simp only [World.size_alloc] at hk1; have c2 : w1.cell? ⟨w.heap.size + 1 + 1 + 1, 2, none⟩ = some (.pointer none) := cell_of_block hk1 2; have f2 : w1.frozen? ⟨w.heap.size + 1 + 1 + 1, 2, none⟩ = false := frozen_of_block hk1 2) | (refine ⟨trivial, ?_⟩; gi_at_call 115; refine (callsIn_wide.2 (from_calls _ _ _ ⟨_, rfl⟩)).mono ?_; rintro e w2 ⟨rfl, rfl⟩))
  have hS := undo_start (last := last) hL b1 hk1
  obtain ⟨w3, hw3⟩ : ∃ w3, w3 = ((((w1.setCell ⟨w.heap.size + 1 + 1 + 1, 2, none⟩ (.pointer (some ⟨w.heap.size + 1, 0, none⟩))).alloc (.cells #[.pointer (some ⟨w.heap.size + 1 + 1 + 1, 0, none⟩)] 194)).alloc (.cells #[.int .i64 last] 3)).alloc (.cells #[.bool true] 4)) := ⟨_, rfl⟩
  rw [← hw3] at hS
  rw [← hw3]
  clear hw3 c2 f2 hk1
  have hB3' := hS.bel
  have HZ3 := Lib.hid hS.sz
  have hlo := hS.lo
  have HS := Lib.hid hS
  clear hS HC b1 hB3
  refine wpIn_rangeFunc_on rfl (by decide) (gf := 135) (lb := #[.pointer (some ⟨w1.heap.size, 0, none⟩), .pointer (some ⟨w1.heap.size + 1, 0, none⟩), .pointer (some ⟨w1.heap.size + 1 + 1, 0, none⟩)]) rfl trivial (enters_of Try.func135 (by kernel_rfl) rfl)
    (fun rc W' => UJ w (w1.heap.size + 1 + 1 + 1) (w.heap.size + 1 + 1) (w3.heap.size + 1) w3.heap.size rc txn es (undoQ es txn last).1 W' ∧ ∃ p', ItSt W' w1.heap.size (w1.heap.size + 1) (w1.heap.size + 1 + 1) (w.heap.size + 1 + 1 + 1) (w.heap.size + 1) (w1.heap.size + 1 + 1 + 1) (w.heap.size + 1 + 1) A b o c es txn p' (undoQ es txn last).2) ?call ?done
  case call =>
    intro rc hrc
    have hst := HS.out
    have hb9 : Below w3.heap.size w3 ((w3.alloc (.deferred (some []))).alloc (.loop (rc .ready none))) := ((Below.refl _ _).alloc (Nat.le_refl _) _).alloc (by simp) _
    refine (from1_in 2 (by decide) hok ?hr hlen (fun pre W => UJ w (w1.heap.size + 1 + 1 + 1) (w.heap.size + 1 + 1) (w3.heap.size + 1) w3.heap.size rc txn es pre W) ?hJ ?hY (hst.it.below hb9) ?h0).mono ?fin
    case hr =>
      intro h0
      refine fallB_full.1 ?_
      cases hf : fallB es es.length with
      | false => rfl
      | true => rw [hf] at h0; simp at h0
    case hJ =>
      intro pre W W' h hs
      have hz9 := HZ3.out
      exact h.step hs ⟨by omega, by omega⟩ ⟨by omega, by omega⟩ ⟨by omega, by omega⟩ ⟨by omega, by omega⟩ ⟨by omega, by omega⟩ ⟨by omega, by omega⟩
    case h0 =>
      exact ⟨⟨.slice none 0 0, alloc_blk (alloc_blk hst.ub _) _, World.ownsRow_nil _ _ _ _⟩, blk_new1 _ _ _, blk_new0 _ _ _, alloc_blk (alloc_blk hst.tx _) _, hst.bel.trans (hb9.mono hst.bel.size), Nat.zero_le _⟩
    case fin =>
      rintro e W' ⟨⟨v, rfl⟩, p', hJ', hI'⟩
      exact ⟨⟨_, rfl⟩, hJ'.rec_, hJ', p', hI'⟩
    case hY =>
      intro pre p r W cs hJp hpl hrok
      obtain ⟨fn, hfn, hrc⟩ := hrc
      refine yieldAt_on hfn hrc (alloc_blk hJp.rec_ _) rfl ?_
      obtain ⟨A1, n1, c1, e1⟩ := hrok.tx1
      obtain ⟨A2, n2, c2, e2⟩ := hrok.pg1
      unfold Rc.val
      rw [e1, e2]
      have HE1 := Lib.hid e1
      have HE2 := Lib.hid e2
      have HRC := Lib.hid hrc
      clear hrc e1 e2
      gi_wp2
      obtain ⟨Wb, hWb⟩ : ∃ Wb, Wb = (W.alloc (.cells cs tRc)).alloc (.cells #[.int .i64 r.kind, .int .i64 r.txn, .int .i64 r.page, .int .i64 r.off, .int .i64 r.prev, .int .i64 r.next, .int .i64 r.begin_, .string r.before, .string r.after, .slice A1 n1 c1, .slice A2 n2 c2] 30) := ⟨_, rfl⟩
      rw [← hWb]
      have hbW : ∀ k, k < W.heap.size → Wb.heap[k]? = W.heap[k]? := fun k hk => by rw [hWb]; exact (Below.heap_alloc _ _ _ (by simp; omega)).trans (Below.heap_alloc _ _ _ hk)
      have hbz : Wb.heap.size = W.heap.size + 1 + 1 := by rw [hWb]; simp
      have hbo : Wb.os = W.os ∧ Wb.tape = W.tape ∧ Wb.output = W.output := by rw [hWb]; exact ⟨rfl, rfl, rfl⟩
      have hr1 : Wb.heap[W.heap.size]? = some (.cells cs tRc (0, 0)) := by rw [hWb]; exact blk_new0 _ _ _
      have hr2 : Wb.heap[W.heap.size + 1]? = some (.cells #[.int .i64 r.kind, .int .i64 r.txn, .int .i64 r.page, .int .i64 r.off, .int .i64 r.prev, .int .i64 r.next, .int .i64 r.begin_, .string r.before, .string r.after, .slice A1 n1 c1, .slice A2 n2 c2] 30 (0, 0)) := by rw [hWb]; exact blk_new1 _ _ _
      clear hWb
      have hl9 := (Array.getElem?_eq_some_iff.1 hJp.rec_).1
      refine ⟨(hbW _ hl9).trans hJp.rec_, ?_⟩
      obtain ⟨Wc, hWc⟩ : ∃ Wc, Wc = Wb.putObj (w3.heap.size + 1) (.loop (rc .busy none)) := ⟨_, rfl⟩
      have hc9 : ∀ k, k ≠ w3.heap.size + 1 → Wc.heap[k]? = Wb.heap[k]? := fun k hk => by rw [hWc]; exact World.putObj_heap_other hk
      have hcl : Wc.heap[w3.heap.size + 1]? = some (.loop (rc .busy none)) := by rw [hWc]; exact World.putObj_heap_same (by omega)
      have hcs : Wc.heap.size = Wb.heap.size := by rw [hWc]; simp
      have hco : Wc.os = Wb.os ∧ Wc.tape = Wb.tape ∧ Wc.output = Wb.output := by rw [hWc]; exact ⟨rfl, rfl, rfl⟩
      rw [← hWc]
      clear hWc
      obtain ⟨v, hv, hrow⟩ := hJp.row
      have hz9 := HZ3.out
      have u1 : w.heap.size + 1 + 1 ≠ w3.heap.size + 1 := by omega
      have u2 : w.heap.size ≠ w3.heap.size + 1 := by omega
      have u3 : W.heap.size + 1 ≠ w3.heap.size + 1 := by omega
      have u4 : W.heap.size ≠ w3.heap.size + 1 := by omega
      have hvc := (hc9 _ u1).trans ((hbW _ (by omega)).trans hv)
      have hr2c := (hc9 _ u3).trans hr2
      have hr1c := (hc9 _ u4).trans hr1
      have hrowc : Wc.ownsRow (w1.heap.size + 1 + 1 + 1) tRc 11 v (undosOf txn pre).length (standCells (undosOf txn pre)) := ownsRow_block hrow (fun k hk => (hc9 k (by
        intro e; subst e
        obtain ⟨cur, hcur⟩ := own_typeR hrow hk
        rw [hJp.rec_] at hcur; cases hcur)).trans (hbW k (Cut.lt (.inl hrow) k hk).2))
      have y0 : Wc.cell? ⟨w.heap.size + 1 + 1, 0, none⟩ = some v := cell_of_block hvc 0
      have y1 : Wc.frozen? ⟨w.heap.size + 1 + 1, 0, none⟩ = false := frozen_of_block hvc 0
      have y2 : Wc.cell? ⟨w.heap.size, 0, none⟩ = some (.int .i64 txn) := cell_of_block ((hc9 _ u2).trans ((hbW _ (by omega)).trans hJp.tx)) 0
      have x0 : Wc.cell? ⟨W.heap.size + 1, 0, none⟩ = some (.int .i64 r.kind) := cell_of_block hr2c 0
      have x2 : Wc.cell? ⟨W.heap.size + 1, 2, none⟩ = some (.int .i64 r.page) := cell_of_block hr2c 2
      have x3 : Wc.cell? ⟨W.heap.size + 1, 3, none⟩ = some (.int .i64 r.off) := cell_of_block hr2c 3
      have x4 : Wc.cell? ⟨W.heap.size + 1, 4, none⟩ = some (.int .i64 r.prev) := cell_of_block hr2c 4
      have x7 : Wc.cell? ⟨W.heap.size + 1, 7, none⟩ = some (.string r.before) := cell_of_block hr2c 7
      obtain ⟨Av, cv, rfl, -, -⟩ := Cut.form (.inl hrowc)
      have hzub : w.heap.size + 1 + 1 < w1.heap.size + 1 + 1 + 1 := by omega
      have hul : (undosOf txn pre).length ≤ 1000000 := by have := undosOf_len txn pre; omega
      have HR1 := Lib.hid hr1c
      have HVC := Lib.hid hvc
      have HJP := Lib.hid hJp
      have HROW := Lib.hid hrow
      have HV := Lib.hid hv
      have HCW := Lib.hid (fun (k : Nat) (hk : k < W.heap.size) (hne : k ≠ w3.heap.size + 1) => (hc9 k hne).trans (hbW k hk))
      have HCS := Lib.hid (hcs.trans hbz)
      have HCL := Lib.hid hcl
      have HCO := Lib.hid (show Wc.os = W.os ∧ Wc.tape = W.tape ∧ Wc.output = W.output from ⟨hco.1.trans hbo.1, hco.2.1.trans hbo.2.1, hco.2.2.trans hbo.2.2⟩)
      have hzc : W.heap.size + 1 < Wc.heap.size := lt_of_block hr2c
      have hzl : w3.heap.size + 1 < W.heap.size := hl9
      have hzN : w1.heap.size + 1 + 1 + 1 ≤ Wc.heap.size := by omega
      have hzz2 : Wc.heap.size = W.heap.size + 1 + 1 := hcs.trans hbz
      have hzz3 : W.heap.size ≤ Wc.heap.size := by omega
      have HZ9 := Lib.hid hz9
      clear hv hrow hr1 hr2 hr2c hr1c hvc hJp hc9 hcs hcl hco hz9 u1 u2 u3 u4 hst hb9 hbW hbz hbo hzz2
      cases hkk : (r.kind == 1) with
      | true =>
        gi_wp2_with (gi_at_builtin; refine wpListIn_append_lies _ rfl (.tmp 27) (.tmp 38) 116 rfl (w1.heap.size + 1 + 1 + 1) tRc i0 zeroRc 11 136 Try.underlying116 hi hz0 hz1 hz2 rfl (by decide) _ _ _ rfl (hrowc.alloc _) ⟨Wc.heap.size, 0, none⟩ 1 1 (rcCells (undoR txn r)) rfl rfl (World.news_of_block (heap_alloc_new Wc _)) (by simp [rcCells, undoR, Value.oneCell']) (by decide) (by unfold maxLen; omega) (by omega) (by simp; omega) ?_; intro g2 cap2 w5 hown2 hg2 hat2 hlt2; have hv5 := (hg2.block (w.heap.size + 1 + 1) (by simp; omega) (fun e => by have := (Cut.lt (.inl hrowc) _ e.symm).1; omega)).trans ((Below.heap_alloc _ _ _ (by omega)).trans HVC.out); have y5 : w5.cell? ⟨w.heap.size + 1 + 1, 0, none⟩ = some _ := cell_of_block hv5 0; have f5 := frozen_of_block hv5 0)
        have hz9 := HZ9.out
        have hcs := HCS.out
        have hsc := fun (k : Nat) (hk : k ≠ w.heap.size + 1 + 1) => Below.heap_setCell w5 ⟨w.heap.size + 1 + 1, 0, none⟩ (.slice (some ⟨g2, 0, none⟩) ((undosOf txn pre).length + 1) cap2) k hk
        have hss : (w5.setCell ⟨w.heap.size + 1 + 1, 0, none⟩ (.slice (some ⟨g2, 0, none⟩) ((undosOf txn pre).length + 1) cap2)).heap.size = w5.heap.size := by simp [World.setCell]
        have hw5 := fun (k : Nat) (hk : k < Wc.heap.size) (hne : some k ≠ (Value.slice Av (undosOf txn pre).length cv).ownBlock) => (hg2.block k (by simp; omega) hne).trans (Below.heap_alloc Wc _ k hk)
        have hlb : some (w3.heap.size + 1) ≠ (Value.slice Av (undosOf txn pre).length cv).ownBlock := fun e => by
          obtain ⟨cur, hcur⟩ := own_typeR hrowc e.symm
          rw [HCL.out] at hcur; cases hcur
        have hrb : some W.heap.size ≠ (Value.slice Av (undosOf txn pre).length cv).ownBlock := fun e => by
          have := (Cut.lt (.inl HROW.out) _ e.symm).2; omega
        have hgN : w1.heap.size + 1 + 1 + 1 ≤ g2 := (Cut.lt (.inl hown2) g2 rfl).1
        refine undo_round (v0 := .slice Av (undosOf txn pre).length cv) HJP.out HV.out HROW.out hpl ⟨_, setCell_block _ _ _ _ hv5, ?_⟩ ?_ ?_ ?_ ?_ ?_ ⟨by omega, by omega, by omega, by omega⟩ (by omega)
        · have h1 := undosOf_snoc txn pre p r
          rw [if_pos hkk] at h1
          have h2 : (undosOf txn (pre ++ [(p, r)])).length = (undosOf txn pre).length + 1 := by rw [h1]; simp
          have h3 : standCells (undosOf txn (pre ++ [(p, r)])) = standCells (undosOf txn pre) ++ rcCells (undoR txn r) := by rw [h1]; simp [standCells]
          rw [h2, h3]
          exact ownsRow_block hown2 (fun k hk => hsc k (by have := (Cut.lt (.inl hown2) k hk).1; omega))
        · intro k hk h1 h2 h3
          exact (hsc k h1).trans ((hw5 k (by omega) (fun e => h3 e.symm)).trans (HCW.out k hk h2))
        · exact (hsc _ (by omega)).trans ((hw5 _ (by omega) hlb).trans HCL.out)
        · exact (hsc _ (by omega)).trans ((hw5 _ (by omega) hrb).trans HR1.out)
        · rw [hss]; have := hg2.size; simp at this; omega
        · exact ⟨hg2.os.trans HCO.out.1, hg2.tape.trans HCO.out.2.1, hg2.output.trans HCO.out.2.2⟩
      | false =>
        gi_wp2
        have hz9 := HZ9.out
        have hcs := HCS.out
        refine undo_round (v0 := .slice Av (undosOf txn pre).length cv) HJP.out HV.out HROW.out hpl ⟨_, HVC.out, ?_⟩ ?_ HCL.out HR1.out (by omega) HCO.out ⟨by omega, by omega, by omega, by omega⟩ (by omega)
        · have h1 := undosOf_snoc txn pre p r
          rw [if_neg (by simp [hkk]), List.append_nil] at h1
          rw [h1]; exact hrowc
        · intro k hk h1 h2 h3
          exact HCW.out k hk h2
  case done =>
    rintro rc W' ⟨hJ', p', hI'⟩ hl
    have hz9 := HZ3.out
    obtain ⟨W9, hW9⟩ : ∃ W9, W9 = W'.putObj (w3.heap.size + 1) (.loop (rc .exhausted none)) := ⟨_, rfl⟩
    have hoth : ∀ k, k ≠ w3.heap.size + 1 → W9.heap[k]? = W'.heap[k]? := fun k hk => by rw [hW9]; exact World.putObj_heap_other hk
    have hsz : W9.heap.size = W'.heap.size := by rw [hW9]; simp
    have hos : W9.os = W'.os ∧ W9.tape = W'.tape ∧ W9.output = W'.output := by rw [hW9]; exact ⟨rfl, rfl, rfl⟩
    rw [← hW9]
    clear hW9
    obtain ⟨v, hv, hrow⟩ := hJ'.row
    have hk9 := (hoth _ (by omega)).trans hI'.ck
    have hv9 := (hoth _ (by omega)).trans hv
    have hd9 := (hoth _ (by omega)).trans hJ'.dfr
    have hrow9 := ownsRow_block hrow (fun k hk => hoth k (by
      intro e; subst e
      obtain ⟨cur, hcur⟩ := own_typeR hrow hk
      rw [hl] at hcur; cases hcur))
    have hB9 : Below w.heap.size w W9 := hJ'.bel.trans ⟨hos.1, hos.2.1, hos.2.2, Nat.le_of_eq hsz.symm, fun k hk => hoth k (by omega)⟩
    have y3 : W9.cell? ⟨w.heap.size + 1 + 1 + 1, 3, none⟩ = some (.int .i64 (undoQ es txn last).2) := cell_of_block hk9 3
    have y0 : W9.cell? ⟨w.heap.size + 1 + 1, 0, none⟩ = some v := cell_of_block hv9 0
    have f0 : W9.frozen? ⟨w.heap.size + 1 + 1, 0, none⟩ = false := frozen_of_block hv9 0
    obtain ⟨Av, cv, rfl, -, -⟩ := Cut.form (.inl hrow9)
    have hdl := (Array.getElem?_eq_some_iff.1 hd9).1
    have HD9 := Lib.hid hd9
    have HV9 := Lib.hid hv9
    have HOth := Lib.hid hoth
    clear hoth hk9 hv9 hd9 hv hrow hJ' hI' hl hsz hos
    cases he : ((undoQ es txn last).2 == 0) with
    | true =>
      have h0 : (undoQ es txn last).2 = 0 := eq_of_beq he
      have hC : undoC es txn last = (undosOf txn (undoQ es txn last).1, 0) := by rw [HQ.out, if_pos h0]
      rw [h0] at y3
      have HCC := Lib.hid hC
      clear h0 he hC
      have HE := Lib.hid (undo_end HV9.out HD9.out hrow9 hB9 (by omega) (by omega) (by omega) 0)
      gi_wp2
      obtain ⟨e1, e2, e3, e4⟩ := HE.out
      have e1' : ((W9.setCell ⟨w.heap.size + 1 + 1, 0, none⟩ (.slice Av (undosOf txn (undoQ es txn last).1).length cv)).putObj w3.heap.size (.deferred none)).cell? ⟨w.heap.size + 1 + 1, 0, none⟩ = some (.slice Av (undosOf txn (undoQ es txn last).1).length cv) := e1
      refine ⟨by simp, .inl ⟨_, _, rfl, run_takeDeferred e4, ?_⟩⟩
      exact ⟨.tuple #[.slice Av (undosOf txn (undoQ es txn last).1).length cv, .int .i64 0], by simp [results, Try.f81, go_sem, e1'], _, by rw [HCC.out], by rw [HCC.out]; exact e2, e3⟩
    | false =>
      have h0 : ((undoQ es txn last).2 != 0) = true := by simp [bne, he]
      have hC : undoC es txn last = ([], (undoQ es txn last).2) := by rw [HQ.out, if_neg (by simpa using he)]
      obtain ⟨z, hz⟩ : ∃ z, z = (undoQ es txn last).2 := ⟨_, rfl⟩
      rw [← hz] at y3 he hC h0
      have HCC := Lib.hid hC
      clear hC hz
      have HE := Lib.hid (fun k => undo_end HV9.out HD9.out (World.ownsRow_nil W9 (w1.heap.size + 1 + 1 + 1) tRc 11) hB9 (by omega) (by omega) (by omega) k)
      gi_wp2
      gi_region
      simp only [Exit.then]
      refine (by assumption : ∀ (a : Act) (w_1 : World), Code.wpIn _ _ _ _ _ _ _ → _) _ _ ?_
      gi_wp2
      obtain ⟨e1, e2, e3, e4⟩ := HE.out 1
      have e1' : ((W9.setCell ⟨w.heap.size + 1 + 1, 0, none⟩ (.slice none 0 0)).drew.putObj w3.heap.size (.deferred none)).cell? ⟨w.heap.size + 1 + 1, 0, none⟩ = some (.slice none 0 0) := e1
      refine ⟨by simp, .inl ⟨_, _, rfl, run_takeDeferred e4, ?_⟩⟩
      exact ⟨.tuple #[.slice none 0 0, .int .i64 z], by simp [results, Try.f81, go_sem, e1'], _, by rw [HCC.out], by rw [HCC.out]; exact e2, e3⟩
end Go.Proofs.Ytepkonhgkabkcaa
