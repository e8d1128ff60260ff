/- Package chain: the iterator over a chain. Condition: the list reads as entries that rise. -/
import Derived.RangeFuncNested
import Derived.RangeFuncBound
import Derived.RangeFuncCalls
import Derived.RangeFuncLeaves
import Derived.Shelf.Abstract
import Derived.Shelf.RegionOpen
import Derived.OwnWalkIn
import Derived.TacticsInMore
import Derived.LoopNIn
import Derived.LoopIn
import Derived.Test.YtepkonhgkabkcaaChn3
namespace Go.Proofs.Ytepkonhgkabkcaa
open Go.RowKit Go.Maps MapI Go.Shelf
set_option linter.unusedVariables false
set_option linter.unusedSimpArgs false
attribute [local go_sem] Oper.semAt_some

/-- A step of the iterator: the blocks pB and wb alone may turn. -/
structure Stp (pB wb : Nat) (W W' : World) : Prop where
  os : W'.os = W.os
  tape : W'.tape = W.tape
  output : W'.output = W.output
  size : W.heap.size ≤ W'.heap.size
  block : ∀ k, k < W.heap.size → k ≠ pB → k ≠ wb → W'.heap[k]? = W.heap[k]?
/-- What a round keeps: below N all blocks but ub. -/
structure Kpp (N ub : Nat) (W W' : World) : Prop where
  size : W.heap.size ≤ W'.heap.size
  block : ∀ k, k < N → k ≠ ub → W'.heap[k]? = W.heap[k]?
theorem Stp.refl {pB wb : Nat} (W : World) : Stp pB wb W W := ⟨rfl, rfl, rfl, Nat.le_refl _, fun _ _ _ _ => rfl⟩
theorem Stp.trans {pB wb : Nat} {W W1 W2 : World} (h : Stp pB wb W W1) (k : Stp pB wb W1 W2) : Stp pB wb W W2 :=
  ⟨k.os.trans h.os, k.tape.trans h.tape, k.output.trans h.output, Nat.le_trans h.size k.size, fun j hj h1 h2 => (k.block j (Nat.lt_of_lt_of_le hj h.size) h1 h2).trans (h.block j hj h1 h2)⟩
theorem Stp.of_grown {pB wb : Nat} {W W' : World} (h : W.grownBy W' (some wb)) : Stp pB wb W W' := ⟨h.os, h.tape, h.output, h.size, fun k hk _ hne => h.block k hk (fun e => hne (by injection e))⟩
theorem Stp.of_below {pB wb : Nat} {W W' : World} (h : Below W.heap.size W W') : Stp pB wb W W' := ⟨h.os, h.tape, h.output, h.size, fun k hk _ _ => h.block k hk⟩
theorem Stp.of_place {pB wb : Nat} (W : World) (v : Value) : Stp pB wb W (W.setCell ⟨pB, 0, none⟩ v) :=
  ⟨rfl, rfl, rfl, by simp [World.setCell], fun k _ h _ => Below.heap_setCell _ _ _ _ h⟩
/-- The walk over a chain, plainly: what comes, and the error at its end. -/
def wlk (es : List En) (txn : Int) : Nat → Int → List (Int × Rc) × Int
  | 0, _ => ([], 0)
  | f + 1, p => if p ≤ 0 then ([], 0) else
    let x := atR es txn p
    if x.2.1 then (let q := wlk es txn f (if x.1.kind = 2 then x.1.next else x.1.prev); ((p, x.1) :: q.1, q.2)) else ([], x.2.2)
/-- The iterator's state in memory. -/
structure ItSt (W : World) (wB pB sB wb sb N ub : Nat) (A : Option Addr) (b o c : Nat) (es : List En) (txn p err : Int) : Prop where
  cw : W.heap[wB]? = some (.cells #[.pointer (some ⟨wb, 0, none⟩)] 194 (0, 0))
  cp : W.heap[pB]? = some (.cells #[.int .i64 p] 3 (0, 0))
  cs : W.heap[sB]? = some (.cells #[.bool true] 4 (0, 0))
  ck : W.heap[wb]? = some (.cells (wkCells (.slice A es.length c) txn (.pointer (some ⟨sb, 0, none⟩)) err) tWk (0, 0))
  ct : W.heap[sb]? = some (.cells #[.int .i64 0] 3 (0, 0))
  lst : Lst W A b o es
  lb : es ≠ [] → b < N ∧ b ≠ ub ∧ b ≠ pB ∧ b ≠ wb
  lt : wB < N ∧ pB < N ∧ sB < N ∧ wb < N ∧ sb < N
  nu : wB ≠ ub ∧ pB ≠ ub ∧ sB ≠ ub ∧ wb ≠ ub ∧ sb ≠ ub
  ne : wB ≠ pB ∧ wB ≠ wb ∧ sB ≠ pB ∧ sB ≠ wb ∧ sb ≠ pB ∧ sb ≠ wb ∧ pB ≠ wb
  sz : N ≤ W.heap.size
section
variable {W W' : World} {wB pB sB wb sb N ub : Nat} {A : Option Addr} {b o c : Nat} {es : List En} {txn p err : Int}
theorem ItSt.kept (h : ItSt W wB pB sB wb sb N ub A b o c es txn p err) (hk : Kpp N ub W W') : ItSt W' wB pB sB wb sb N ub A b o c es txn p err := by
  obtain ⟨l1, l2, l3, l4, l5⟩ := h.lt
  obtain ⟨n1, n2, n3, n4, n5⟩ := h.nu
  exact ⟨(hk.block _ l1 n1).trans h.cw, (hk.block _ l2 n2).trans h.cp, (hk.block _ l3 n3).trans h.cs, (hk.block _ l4 n4).trans h.ck, (hk.block _ l5 n5).trans h.ct,
    ⟨h.lst.addr, fun hne => Nat.lt_of_lt_of_le (h.lst.lt hne) hk.size, fun i x hx => by
      have hne : es ≠ [] := by intro e; rw [e] at hx; simp at hx
      exact (h.lst.at_ i x hx).of_block (hk.block _ (h.lb hne).1 (h.lb hne).2.1)⟩, h.lb, h.lt, h.nu, h.ne, Nat.le_trans h.sz hk.size⟩
theorem ItSt.step (h : ItSt W wB pB sB wb sb N ub A b o c es txn p err) (hk : Stp pB wb W W') {p' err' : Int} (hp : W'.heap[pB]? = some (.cells #[.int .i64 p'] 3 (0, 0))) (hw : W'.heap[wb]? = some (.cells (wkCells (.slice A es.length c) txn (.pointer (some ⟨sb, 0, none⟩)) err') tWk (0, 0))) :
    ItSt W' wB pB sB wb sb N ub A b o c es txn p' err' := by
  obtain ⟨m1, m2, m3, m4, m5, m6, m7⟩ := h.ne
  exact ⟨(hk.block _ (lt_of_block h.cw) m1 m2).trans h.cw, hp, (hk.block _ (lt_of_block h.cs) m3 m4).trans h.cs, hw, (hk.block _ (lt_of_block h.ct) m5 m6).trans h.ct,
    ⟨h.lst.addr, fun hne => Nat.lt_of_lt_of_le (h.lst.lt hne) hk.size, fun i x hx => by
      have hne : es ≠ [] := by intro e; rw [e] at hx; simp at hx
      exact (h.lst.at_ i x hx).of_block (hk.block _ (h.lst.lt hne) (h.lb hne).2.2.1 (h.lb hne).2.2.2)⟩, h.lb, h.lt, h.nu, h.ne, Nat.le_trans h.sz hk.size⟩
theorem ItSt.below (h : ItSt W wB pB sB wb sb N ub A b o c es txn p err) (hk : Below W.heap.size W W') : ItSt W' wB pB sB wb sb N ub A b o c es txn p err :=
  h.step (.of_below hk) ((hk.block _ (lt_of_block h.cp)).trans h.cp) ((hk.block _ (lt_of_block h.ck)).trans h.ck)
end
def placeOf : Option Value → Nat
  | some (.int _ n) => n.toNat
  | _ => 0
theorem from_calls (w : World) (wv : Value) (p : Int) (hv : ∃ a, wv = .pointer a) : Calls Try.prog 115 #[wv, .int .i64 p, .bool true] w fun e w' =>
    e = .returned (.func (.func 135) #[] #[.pointer (some ⟨w.heap.size, 0, none⟩), .pointer (some ⟨w.heap.size + 1, 0, none⟩), .pointer (some ⟨w.heap.size + 1 + 1, 0, none⟩)]) ∧
    w' = ((w.alloc (.cells #[wv] 194)).alloc (.cells #[.int .i64 p] 3)).alloc (.cells #[.bool true] 4) := by
  obtain ⟨a, rfl⟩ := hv
  go_enter Try.func115, Try.ntmps115
  go_wp2_with fail
  go_ret
  exact ⟨rfl, rfl⟩
theorem filt_lt {es : List En} {p q : Int} {r : Rc} (h : (p, r) ∈ es) (hq : q < p) : (es.filter fun x => decide (x.1 ≤ q)).length + 1 ≤ (es.filter fun x => decide (x.1 ≤ p)).length := by
  induction es with
  | nil => simp at h
  | cons x t ih =>
    have mono : ∀ t : List En, (t.filter fun x => decide (x.1 ≤ q)).length ≤ (t.filter fun x => decide (x.1 ≤ p)).length := by
      intro t
      induction t with
      | nil => simp
      | cons y u ih2 =>
        rw [List.filter_cons, List.filter_cons]
        by_cases h1 : y.1 ≤ q
        · have h2 : y.1 ≤ p := by omega
          simp [h1, h2]; exact ih2
        · by_cases h2 : y.1 ≤ p
          · simp [h1, h2]; omega
          · simp [h1, h2]; exact ih2
    rw [List.filter_cons, List.filter_cons]
    rcases List.mem_cons.1 h with e | h
    · subst e
      have h1 : ¬ p ≤ q := by omega
      have := mono t
      simp [h1]; omega
    · have := ih h
      by_cases h1 : x.1 ≤ q
      · have h2 : x.1 ≤ p := by omega
        simp [h1, h2]; omega
      · by_cases h2 : x.1 ≤ p
        · simp [h1, h2]; omega
        · simp [h1, h2]; omega
theorem recAt_mem {es : List En} {p : Int} {r : Rc} (h : recAt es p = some r) : (p, r) ∈ es := by
  unfold recAt at h
  cases hf : es.find? (fun x => x.1 == p) with
  | none => rw [hf] at h; cases h
  | some x =>
    rw [hf] at h
    injection h with h
    have h1 := List.find?_some hf
    have h2 := List.mem_of_find?_eq_some hf
    have h3 : x.1 = p := by simpa using h1
    rw [← h, ← h3]; exact h2
def nextR (r : Rc) : Int := if r.kind = 2 then r.next else r.prev
theorem atR_next {es : List En} {txn p : Int} {r : Rc} (h : atR es txn p = (r, true, 0)) : nextR r < p ∧ recAt es p = some r ∧ badR r txn p = false := by
  unfold atR at h
  cases hr : recAt es p with
  | none => rw [hr] at h; cases h
  | some r' =>
    rw [hr] at h
    cases hb : badR r' txn p with
    | true => simp [hb] at h
    | false =>
      simp only [hb, Bool.false_eq_true, if_false, Prod.mk.injEq, and_true] at h
      subst h
      refine ⟨?_, rfl, hb⟩
      unfold badR at hb
      unfold nextR
      simp only [Bool.or_eq_false_iff, Bool.and_eq_false_iff, decide_eq_false_iff_not] at hb
      split
      · rename_i h2
        have := hb.2.2.2
        simp [h2] at this; omega
      · have := hb.2.2.1; omega
theorem wlk_fuel (es : List En) (txn : Int) : ∀ (f : Nat) (p : Int), p.toNat ≤ f → wlk es txn f p = wlk es txn p.toNat p
  | 0, p, h => by have : p.toNat = 0 := by omega
                  rw [this]
  | f + 1, p, h => by
    by_cases hp : p ≤ 0
    · have h0 : p.toNat = 0 := by omega
      rw [h0]
      simp [wlk, hp]
    · obtain ⟨g, hg⟩ : ∃ g, p.toNat = g + 1 := ⟨p.toNat - 1, by omega⟩
      rw [hg]
      unfold wlk
      rw [if_neg hp, if_neg hp]
      cases hb : (atR es txn p).2.1 with
      | false => simp [hb]
      | true =>
        have hx : atR es txn p = ((atR es txn p).1, true, 0) := by
          unfold atR at hb ⊢
          cases hr : recAt es p with
          | none => rw [hr] at hb; simp at hb
          | some r => rw [hr] at hb; cases hbb : badR r txn p <;> simp_all
        have hlt := (atR_next hx).1
        unfold nextR at hlt
        have e1 := wlk_fuel es txn f (if (atR es txn p).1.kind = 2 then (atR es txn p).1.next else (atR es txn p).1.prev) (by omega)
        have e2 := wlk_fuel es txn g (if (atR es txn p).1.kind = 2 then (atR es txn p).1.next else (atR es txn p).1.prev) (by omega)
        simp only [if_true]
        rw [e1, e2]
theorem wlk_len (es : List En) (txn : Int) : ∀ (f : Nat) (p : Int), (wlk es txn f p).1.length ≤ (es.filter fun x => decide (x.1 ≤ p)).length
  | 0, p => by simp [wlk]
  | f + 1, p => by
    unfold wlk
    by_cases hp : p ≤ 0
    · rw [if_pos hp]; simp
    · rw [if_neg hp]
      cases hb : (atR es txn p).2.1 with
      | false => simp [hb]
      | true =>
        have hx : atR es txn p = ((atR es txn p).1, true, 0) := by
          unfold atR at hb ⊢
          cases hr : recAt es p with
          | none => rw [hr] at hb; simp at hb
          | some r => rw [hr] at hb; cases hbb : badR r txn p <;> simp_all
        obtain ⟨hlt, hrec, -⟩ := atR_next hx
        unfold nextR at hlt
        have ih := wlk_len es txn f (if (atR es txn p).1.kind = 2 then (atR es txn p).1.next else (atR es txn p).1.prev)
        have := filt_lt (recAt_mem hrec) hlt
        simp only [hb, if_true, List.length_cons]
        omega
def chainW (es : List En) (txn p : Int) : List (Int × Rc) × Int := wlk es txn p.toNat p
theorem chainW_len (es : List En) (txn p : Int) : (chainW es txn p).1.length ≤ es.length := Nat.le_trans (wlk_len es txn _ p) (List.length_filter_le _ _)
theorem chainW_end {es : List En} {txn p : Int} (h : p ≤ 0) : chainW es txn p = ([], 0) := by
  unfold chainW; have h0 : p.toNat = 0 := by omega
  rw [h0]; rfl
theorem chainW_step {es : List En} {txn p : Int} {r : Rc} (h : 0 < p) (hx : atR es txn p = (r, true, 0)) : chainW es txn p = ((p, r) :: (chainW es txn (nextR r)).1, (chainW es txn (nextR r)).2) := by
  have hlt := (atR_next hx).1
  unfold chainW
  obtain ⟨g, hg⟩ : ∃ g, p.toNat = g + 1 := ⟨p.toNat - 1, by omega⟩
  rw [hg]
  conv => lhs; unfold wlk
  rw [if_neg (by omega), hx]
  simp only [if_true]
  rw [wlk_fuel es txn g _ (by unfold nextR at hlt; omega)]
  rfl
theorem chainW_stop {es : List En} {txn p e : Int} {r : Rc} (h : 0 < p) (hx : atR es txn p = (r, false, e)) : chainW es txn p = ([], e) := by
  unfold chainW
  obtain ⟨g, hg⟩ : ∃ g, p.toNat = g + 1 := ⟨p.toNat - 1, by omega⟩
  rw [hg]
  unfold wlk
  rw [if_neg (by omega), hx]
  simp
/-- What has come, and what is to come. -/
def Tgt (es : List En) (txn err0 p0 : Int) (pre : List (Int × Rc)) (p : Int) : Prop := if err0 = 0 then (chainW es txn p0).1 = pre ++ (chainW es txn p).1 ∧ (chainW es txn p0).2 = (chainW es txn p).2 else pre = [] ∧ p = p0
theorem Tgt.start {es : List En} {txn err0 p0 : Int} : Tgt es txn err0 p0 [] p0 := by unfold Tgt; split <;> simp
def ItPost (J : List (Int × Rc) → World → Prop) (wB pB sB wb sb N ub : Nat) (A : Option Addr) (b o c : Nat) (es : List En) (txn : Int) (q : List (Int × Rc) × Int) (e : Ending) (W' : World) : Prop :=
  (∃ v, e = .returned v) ∧ ∃ p', J q.1 W' ∧ ItSt W' wB pB sB wb sb N ub A b o c es txn p' q.2
def endQ (es : List En) (txn err0 p0 : Int) : List (Int × Rc) × Int := if err0 = 0 then chainW es txn p0 else ([], err0)
theorem Tgt.end_no {es : List En} {txn err0 p0 p : Int} {pre : List (Int × Rc)} (h : Tgt es txn err0 p0 pre p) (hno : err0 ≠ 0 ∨ p ≤ 0) : endQ es txn err0 p0 = (pre, err0) := by
  unfold Tgt at h; unfold endQ
  by_cases h0 : err0 = 0
  · rw [if_pos h0] at h ⊢
    obtain ⟨h1, h2⟩ := h
    have hp : p ≤ 0 := by omega
    rw [chainW_end hp] at h1 h2
    rw [h0]
    exact Prod.ext (by simpa using h1) h2
  · rw [if_neg h0] at h ⊢
    rw [h.1]
theorem Tgt.end_stop {es : List En} {txn p0 p e : Int} {r : Rc} {pre : List (Int × Rc)} (h : Tgt es txn 0 p0 pre p) (hp : 0 < p) (hx : atR es txn p = (r, false, e)) : endQ es txn 0 p0 = (pre, e) := by
  unfold Tgt at h; unfold endQ
  rw [if_pos rfl] at h ⊢
  rw [chainW_stop hp hx] at h
  exact Prod.ext (by simpa using h.1) h.2
theorem Tgt.next {es : List En} {txn p0 p : Int} {r : Rc} {pre : List (Int × Rc)} (h : Tgt es txn 0 p0 pre p) (hp : 0 < p) (hx : atR es txn p = (r, true, 0)) : Tgt es txn 0 p0 (pre ++ [(p, r)]) (nextR r) := by
  unfold Tgt at h ⊢
  rw [if_pos rfl] at h ⊢
  rw [chainW_step hp hx] at h
  exact ⟨by rw [h.1]; simp, h.2⟩
theorem it_next {wB pB sB wb sb N ub : Nat} {A : Option Addr} {b o c : Nat} {es : List En} {txn p0 p q : Int} {J : List (Int × Rc) → World → Prop} {pre' : List (Int × Rc)} {wr W4 W5 : World} (hJ : ∀ pre W W', J pre W → Stp pB wb W W' → J pre W') (hJ4 : J pre' W4)
    (hI4 : ItSt W4 wB pB sB wb sb N ub A b o c es txn p 0) (hs : Stp pB wb W4 W5) (hp5 : W5.heap[pB]? = some (.cells #[.int .i64 q] 3 (0, 0))) (hT : Tgt es txn 0 p0 pre' q) (hcp : wr.heap[pB]? = some (.cells #[.int .i64 p] 3 (0, 0))) (hlt : q < p) (hpos : 0 < p) (hw5 : W5.heap[wb]? = W4.heap[wb]?) :
    (∃ pre p', J pre W5 ∧ ItSt W5 wB pB sB wb sb N ub A b o c es txn p' 0 ∧ Tgt es txn 0 p0 pre p') ∧ placeOf (W5.cell? ⟨pB, 0, none⟩) < placeOf (wr.cell? ⟨pB, 0, none⟩) := by
  refine ⟨⟨pre', q, hJ _ _ _ hJ4 hs, hI4.step hs hp5 (hw5.trans hI4.ck), hT⟩, ?_⟩
  have h1 : W5.cell? ⟨pB, 0, none⟩ = some (.int .i64 q) := cell_of_block hp5 0
  have h2 : wr.cell? ⟨pB, 0, none⟩ = some (.int .i64 p) := cell_of_block hcp 0
  rw [h1, h2]
  show q.toNat < p.toNat
  omega
/-- The iterator runs: each round is told a place and its record; behind all the state is at the chain's end. -/
theorem from1_in (n : Nat) (hn : 1 ≤ n) {wB pB sB wb sb N ub l : Nat} {A : Option Addr} {b o c : Nat} {es : List En} {txn p0 err0 : Int} (hok : ∀ x ∈ es, EnOk x) (hr : err0 = 0 → Rise es) (hlen : es.length ≤ 1000000)
    (J : List (Int × Rc) → World → Prop) (hJ : ∀ pre W W', J pre W → Stp pB wb W W' → J pre W')
    (hY : ∀ pre p r W cs, J pre W → pre.length < es.length → RcOk r → YieldAt Fence.wide (n - 1) Try.prog l #[.int .i64 p, r.val] (W.alloc (.cells cs tRc)) fun e W' => e = .returned (.bool true) ∧ J (pre ++ [(p, r)]) W' ∧ Kpp N ub W W' ∧ W'.heap[W.heap.size]? = some (.cells cs tRc (0, 0)))
    {w : World} (hI : ItSt w wB pB sB wb sb N ub A b o c es txn p0 err0) (h0 : J [] w) :
    CallsIn Fence.wide n Try.prog 135 #[.func (.yield l) #[] #[], .pointer (some ⟨wB, 0, none⟩), .pointer (some ⟨pB, 0, none⟩), .pointer (some ⟨sB, 0, none⟩)] w (ItPost J wB pB sB wb sb N ub A b o c es txn (endQ es txn err0 p0)) := by
  refine callsIn_of_wp Try.func135 rfl trivial ?_ rfl
  simp only [Try.ntmps135, List.size_toArray, List.length_cons, List.length_nil, Nat.reduceAdd, Nat.reduceSub, Array.replicate_succ, Array.replicate_zero, List.push_toArray, List.append_toArray, List.nil_append, List.cons_append]
  gi_wp2
  gi_loopw [5] (fun u wr => ∃ (pre : List (Int × Rc)) (p : Int), J pre wr ∧ ItSt wr wB pB sB wb sb N ub A b o c es txn p err0 ∧ Tgt es txn err0 p0 pre p)
    (fun u wr => placeOf (wr.cell? ⟨pB, 0, none⟩))
  case atStart => exact ⟨[], p0, h0, hI, Tgt.start⟩
  case round =>
    obtain ⟨pre, p, hJp, hIp, hT⟩ := hrel
    have k1 := cell_of_block hIp.cw 0
    have k2 := cell_of_block hIp.cp 0
    by_cases hgo : err0 = 0 ∧ 0 < p
    · obtain ⟨rfl, hp⟩ := hgo
      have hRise := hr rfl
      have HC := Lib.hid (on_yes hIp.ck (cell_of_block hIp.ct 0) hp)
      cases hrec : recAt es p with
      | none =>
        have HA := Lib.hid (at_none hIp.lst hok hRise hlen hIp.ck hrec)
        gi_wp2_with (first | (refine ⟨trivial, ?_⟩; gi_at_call 136; refine (callsIn_wide.2 HC.out).mono ?_; rintro e W1 ⟨rfl, rfl⟩) | (refine ⟨trivial, ?_⟩; gi_at_call 137; refine (callsIn_wide.2 HA.out).mono ?_; rintro e W2 ⟨rfl, hk2, hg2⟩; unfold zeroR Rc.val))
        refine ⟨fun _ h => (by cases h), ?_⟩
        gi_wp2
        refine bodyPost_ret (results_none rfl _ _ _) rfl ?_
        have hx : atR es txn p = (zeroR, false, 7) := by unfold atR; rw [hrec]
        have hs2 : Stp pB wb wr W2 := .of_grown hg2
        have hI2 := hIp.step hs2 ((hg2.block _ (lt_of_block hIp.cp) (by intro e; injection e with e; exact hIp.ne.2.2.2.2.2.2 e)).trans hIp.cp) hk2
        refine ⟨⟨_, rfl⟩, p, ?_⟩
        rw [hT.end_stop hp hx]
        have b3 : ∀ o, Below W2.heap.size W2 (W2.alloc o) := fun o => (Below.refl _ _).alloc (Nat.le_refl _) o
        exact ⟨hJ _ _ _ (hJ _ _ _ hJp hs2) (.of_below (b3 _)), hI2.below (b3 _)⟩
      | some r =>
        have hmem := recAt_mem hrec
        have hrok := (hok _ hmem).rec_
        dsimp only at hrok
        obtain ⟨A1, n1, c1, e1⟩ := hrok.tx1
        obtain ⟨A2, n2, c2, e2⟩ := hrok.pg1
        cases hbad : badR r txn p with
        | true =>
          have hA := at_bad hIp.lst hok hRise hlen hIp.ck hrec hbad
          unfold AtPost Rc.val at hA
          rw [e1, e2] at hA
          have HA := Lib.hid hA
          clear hA e1 e2
          have HREC := Lib.hid hrec
          have HBAD := Lib.hid hbad
          clear hrec hbad
          gi_wp2_with (first | (refine ⟨trivial, ?_⟩; gi_at_call 136; refine (callsIn_wide.2 HC.out).mono ?_; rintro e W1 ⟨rfl, rfl⟩) | (refine ⟨trivial, ?_⟩; gi_at_call 137; refine (callsIn_wide.2 HA.out).mono ?_; rintro e W2 ⟨rfl, hk2, hg2⟩))
          refine ⟨fun _ h => (by cases h), ?_⟩
          gi_wp2
          refine bodyPost_ret (results_none rfl _ _ _) rfl ?_
          have hx : atR es txn p = (r, false, 1) := by unfold atR; rw [HREC.out]; simp [HBAD.out]
          have hs2 : Stp pB wb wr W2 := .of_grown hg2
          have hI2 := hIp.step hs2 ((hg2.block _ (lt_of_block hIp.cp) (by intro e; injection e with e; exact hIp.ne.2.2.2.2.2.2 e)).trans hIp.cp) hk2
          refine ⟨⟨_, rfl⟩, p, ?_⟩
          rw [hT.end_stop hp hx]
          have b3 : ∀ o, Below W2.heap.size W2 (W2.alloc o) := fun o => (Below.refl _ _).alloc (Nat.le_refl _) o
          exact ⟨hJ _ _ _ (hJ _ _ _ hJp hs2) (.of_below (b3 _)), hI2.below (b3 _)⟩
        | false =>
          have hA := at_ok hIp.lst hok hRise hlen hIp.ck hrec hbad
          unfold AtPost Rc.val at hA
          rw [e1, e2] at hA
          have HA := Lib.hid hA
          clear hA
          have hplen : pre.length < es.length := by
            have hx : atR es txn p = (r, true, 0) := by unfold atR; rw [hrec]; simp [hbad]
            have h1 := hT
            unfold Tgt at h1
            rw [if_pos rfl] at h1
            have h2 := congrArg List.length h1.1
            rw [chainW_step hp hx] at h2
            have h3 := chainW_len es txn p0
            simp at h2
            omega
          have HREC := Lib.hid hrec
          have HBAD := Lib.hid hbad
          have HE1 := Lib.hid e1
          have HE2 := Lib.hid e2
          clear hrec hbad e1 e2
          gi_wp2_with (first | (refine ⟨trivial, ?_⟩; gi_at_call 136; refine (callsIn_wide.2 HC.out).mono ?_; rintro e W1 ⟨rfl, rfl⟩) | (refine ⟨trivial, ?_⟩; gi_at_call 137; refine (callsIn_wide.2 HA.out).mono ?_; rintro e W2 ⟨rfl, hk2, hg2⟩; obtain ⟨fn, tmps, assign, body, hy, hR⟩ := hY pre p r W2 #[.int .i64 r.kind, .int .i64 r.txn, .int .i64 r.page, .int .i64 r.off, .int .i64 r.prev, .int .i64 r.next, .int .i64 r.begin_, .string r.before, .string r.after, .slice A1 n1 c1, .slice A2 n2 c2] (hJ _ _ _ hJp (.of_grown hg2)) hplen hrok; unfold Rc.val at hy; rw [HE1.out, HE2.out] at hy; have hI2 := Lib.hid (hIp.step (.of_grown hg2) ((hg2.block _ (lt_of_block hIp.cp) (by intro e; injection e with e; exact hIp.ne.2.2.2.2.2.2 e)).trans hIp.cp) hk2); have k2' : W2.cell? ⟨pB, 0, none⟩ = some (.int .i64 p) := cell_of_block hI2.out.cp 0; have z2 : pB < W2.heap.size := lt_of_block hI2.out.cp))
          refine hR.mono ?_
          rintro e W4 ⟨rfl, hJ4, hk4, hr4⟩
          have hI4 := hI2.out.kept hk4
          have p4 : W4.cell? ⟨pB, 0, none⟩ = some (.int .i64 p) := cell_of_block hI4.cp 0
          have f4 : W4.frozen? ⟨pB, 0, none⟩ = false := frozen_of_block hI4.cp 0
          have s4 : W4.cell? ⟨sB, 0, none⟩ = some (.bool true) := cell_of_block hI4.cs 0
          have r0 : W4.cell? ⟨W2.heap.size, 0, none⟩ = some (.int .i64 r.kind) := cell_of_block hr4 0
          have r4 : W4.cell? ⟨W2.heap.size, 4, none⟩ = some (.int .i64 r.prev) := cell_of_block hr4 4
          have r5 : W4.cell? ⟨W2.heap.size, 5, none⟩ = some (.int .i64 r.next) := cell_of_block hr4 5
          have n1 : W2.heap.size ≠ pB := by omega
          have n2 : sB ≠ pB := hIp.ne.2.2.1
          have hwp : wb ≠ pB := Ne.symm hIp.ne.2.2.2.2.2.2
          have HI4 := Lib.hid hI4
          have HR4 := Lib.hid hr4
          have hx : atR es txn p = (r, true, 0) := by unfold atR; rw [HREC.out]; simp [HBAD.out]
          have HX := Lib.hid hx
          have hnx := (atR_next hx).1
          unfold nextR at hnx
          clear hI4 hr4 hx hk4 hy hR k2'
          cases hkk : (r.kind == 2) with
          | true =>
            have hnn : nextR r = r.next := by unfold nextR; rw [if_pos (eq_of_beq hkk)]
            rw [if_pos (eq_of_beq hkk)] at hnx
            have HN := Lib.hid hnn
            clear hnn
            gi_wp2
            refine it_next hJ hJ4 HI4.out (Stp.trans (Stp.of_place _ _) (Stp.of_place _ _)) (setCell_block _ _ _ _ (setCell_block _ _ _ _ HI4.out.cp)) (by rw [← HN.out]; exact hT.next hp HX.out) hIp.cp hnx hp ?_
            exact (Below.heap_setCell _ _ _ _ hwp).trans (Below.heap_setCell _ _ _ _ hwp)
          | false =>
            have hnn : nextR r = r.prev := by unfold nextR; rw [if_neg (by simpa using hkk)]
            rw [if_neg (by simpa using hkk)] at hnx
            have HN := Lib.hid hnn
            clear hnn
            gi_wp2
            refine it_next hJ hJ4 HI4.out (Stp.of_place _ _) (setCell_block _ _ _ _ HI4.out.cp) (by rw [← HN.out]; exact hT.next hp HX.out) hIp.cp hnx hp ?_
            exact Below.heap_setCell _ _ _ _ hwp
    · have hno : err0 ≠ 0 ∨ p ≤ 0 := by omega
      have HC := Lib.hid (on_no hIp.ck (cell_of_block hIp.ct 0) hno)
      gi_wp2_with (refine ⟨trivial, ?_⟩; gi_at_call 136; refine (callsIn_wide.2 HC.out).mono ?_; rintro e W1 ⟨rfl, rfl⟩)
      go_end0
      refine ⟨⟨_, rfl⟩, p, ?_⟩
      rw [hT.end_no hno]
      exact ⟨hJp, hIp⟩
end Go.Proofs.Ytepkonhgkabkcaa
