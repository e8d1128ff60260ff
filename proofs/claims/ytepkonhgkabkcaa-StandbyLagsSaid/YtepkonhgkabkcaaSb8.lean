/- Package standby: Promote. Condition: what the library says of the sort (SortSays, SortNone), paid where it is laid. -/
import Derived.Test.YtepkonhgkabkcaaSb7
import Derived.StillTailTactics
namespace Go.Proofs.Ytepkonhgkabkcaa
open Go.RowKit Go.Maps MapI Go.Sort Go.Shelf
set_option linter.unusedVariables false
set_option linter.unusedSimpArgs false

theorem wlk_mem (es : List En) (txn : Int) : ∀ (f : Nat) (p : Int), ∀ x ∈ (wlk es txn f p).1, x ∈ es
  | 0, p => by simp [wlk]
  | f + 1, p => by
    unfold wlk
    by_cases hp : p ≤ 0
    · rw [if_pos hp]; simp
    · rw [if_neg hp]
      cases hb : (atR es txn p).2.1 with
      | false => simp [hb]
      | true =>
        have hx : atR es txn p = ((atR es txn p).1, true, 0) := by
          unfold atR at hb ⊢
          cases hr : recAt es p with
          | none => rw [hr] at hb; simp at hb
          | some r => rw [hr] at hb; cases hbb : badR r txn p <;> simp_all
        obtain ⟨hlt, hrec, -⟩ := atR_next hx
        have ih := wlk_mem es txn f (if (atR es txn p).1.kind = 2 then (atR es txn p).1.next else (atR es txn p).1.prev)
        simp only [hb, if_true, List.mem_cons]
        rintro x (rfl | h)
        · exact recAt_mem hrec
        · exact ih x h
theorem endQ_mem (es : List En) (txn err p : Int) : ∀ x ∈ (endQ es txn err p).1, x ∈ es := by
  unfold endQ
  split
  · exact wlk_mem es txn _ _
  · simp
theorem endQ_len (es : List En) (txn err p : Int) : (endQ es txn err p).1.length ≤ es.length := by
  unfold endQ
  split
  · exact chainW_len _ _ _
  · simp
theorem undoC_ok {es : List En} {txn last : Int} (hok : ∀ x ∈ es, EnOk x) (ht : (Lit.int .i64 txn).wf = true) : ∀ r ∈ (undoC es txn last).1, RcOk r := by
  intro r hr
  unfold undoC at hr
  split at hr
  · refine undosOf_ok ht (fun x hx => ?_) r hr
    exact (hok x (endQ_mem es txn _ _ x hx)).rec_
  · simp at hr
theorem undoC_len (es : List En) (txn last : Int) : (undoC es txn last).1.length ≤ es.length := by
  unfold undoC
  split
  · exact Nat.le_trans (undosOf_len _ _) (endQ_len es txn _ _)
  · simp
/-! ### plainly -/
def undoAll (ps : List Pg) (rs : List Rc) : List Pg := rs.foldl (fun ps r => setAt ps r.page (fun p => undoP p r)) ps
theorem undoAll_length (ps : List Pg) (rs : List Rc) : (undoAll ps rs).length = ps.length := by
  unfold undoAll
  induction rs generalizing ps with
  | nil => rfl
  | cons r rs ih => rw [List.foldl_cons, ih, setAt_length]
theorem undoAll_snoc (ps : List Pg) (rs : List Rc) (r : Rc) : undoAll ps (rs ++ [r]) = setAt (undoAll ps rs) r.page (fun p => undoP p r) := by unfold undoAll; rw [List.foldl_append]; rfl
def promS (es : List En) (l : List (Int × Int)) : List Int → List Pg → List Pg × Int
  | [], ps => (ps, 0)
  | k :: ks, ps => if (undoC es k (lastOf l k)).2 = 0 then promS es l ks (undoAll ps (undoC es k (lastOf l k)).1) else ([], (undoC es k (lastOf l k)).2)
def ordS (s : Sb) : List Int := ordK s.last (s.last.map Prod.fst)
def promC (s : Sb) : List Pg × Int := promS s.list s.last (ordS s) s.pages
def PromPost (w : World) (s : Sb) (e : Ending) (w' : World) : Prop := ∃ v, e = .returned (.tuple #[v, .int .i64 (promC s).2]) ∧ w'.ownsRow w.heap.size 9 1 v (promC s).1.length (strCells (promC s).1) ∧ Below w.heap.size w w'
/-- The last records of two open transactions are not one. -/
def Dist (s : Sb) : Prop := ∀ a ∈ s.last.map Prod.fst, ∀ b ∈ s.last.map Prod.fst, lastOf s.last a = lastOf s.last b → a = b
theorem ordS_length (s : Sb) : (ordS s).length = s.last.length := by unfold ordS ordK; simp
theorem ordS_mem {s : Sb} {k : Int} (h : k ∈ ordS s) : k ∈ s.last.map Prod.fst := by unfold ordS ordK at h; simpa using h
def SortNone (fn : Nat) : Prop := ∀ (p : Option Addr) (cap : Nat) (fv : Value) (w : World), Calls Try.prog fn #[.slice p 0 cap, fv] w fun e w' => e = .returned (.tuple #[]) ∧ w' = w
theorem sortK_calls {fn bx sb mb : Nat} {keys : List Int} (HS : SortSays fn 93 #[.pointer (some ⟨bx, 0, none⟩)]) (HN : keys = [] → SortNone fn) {w : World} {x0 x1 : Value} {l : List (Int × Int)} {t1 t2 : Nat} (hb : w.heap[bx]? = some (.cells #[.pointer (some ⟨sb, 0, none⟩)] t1 (0, 0))) (hs : w.heap[sb]? = some (.cells #[x0, x1, .map (some mb)] t2 (0, 0))) (hm : MapIs Try.prog 3 encN w mb l)
    {B n : Nat} {v : Value} (hn : n = keys.length) (hk : ∀ k ∈ keys, (Lit.int .i64 k).wf = true) (hlen : keys.length ≤ 1000000) (hrow : w.ownsRow B 3 1 v n (keys.map (.int .i64))) (hd : ∀ a ∈ keys, ∀ b ∈ keys, lastOf l a = lastOf l b → a = b) (hB : bx < B ∧ sb < B ∧ mb < B) :
    Calls Try.prog fn #[v, .func (.func 93) #[] #[.pointer (some ⟨bx, 0, none⟩)]] w fun e w' => e = .returned (.tuple #[]) ∧ w'.ownsRow B 3 1 v n ((ordK l keys).map (.int .i64)) ∧ Below B w w' := by
  subst hn
  by_cases hz : keys = []
  · subst hz
    obtain ⟨A, c, rfl, -⟩ := Cut.form (.inl hrow)
    refine (HN rfl A c _ w).mono ?_
    rintro e w' ⟨rfl, rfl⟩
    exact ⟨rfl, by rw [show ordK l [] = [] from by simp [ordK]]; exact hrow, Below.refl _ _⟩
  · exact sortK_some HS hb hs hm hk hlen (List.length_pos_iff.2 hz) hrow hd hB
/-! ### memory -/
structure PJ (w : World) (bx sb g2 : Nat) (vo : Value) (M : Nat) (ord : List Int) (ps : List Pg) (W : World) : Prop where
  box : W.heap[bx]? = some (.cells #[.pointer (some ⟨sb, 0, none⟩)] 73 (0, 0))
  row : W.ownsRow M 3 1 vo ord.length (ord.map (.int .i64))
  pgs : ∃ cs, W.heap[g2]? = some (.cells cs 56 (0, 0)) ∧ PgsIn cs 0 ps
  ge : w.heap.size ≤ g2
  bel : Below w.heap.size w W
theorem PJ.step {w : World} {bx sb g2 : Nat} {vo : Value} {M : Nat} {ord : List Int} {ps ps' : List Pg} {W W' : World} (h : PJ w bx sb g2 vo M ord ps W) (hf : Frm (fun k => k = g2) W W') (hp : ∃ cs, W'.heap[g2]? = some (.cells cs 56 (0, 0)) ∧ PgsIn cs 0 ps') : PJ w bx sb g2 vo M ord ps' W' := by
  obtain ⟨cs, hg, hi⟩ := h.pgs
  refine ⟨(hf.block bx (lt_of_block h.box) (type_ne hg h.box (by decide))).trans h.box, ownsRow_block h.row (fun k hk => ?_), hp, h.ge, ?_⟩
  · obtain ⟨cur, hc⟩ := own_typeR h.row hk
    exact hf.block k (lt_of_block hc) (type_ne hg hc (by decide))
  · exact ⟨hf.os.trans h.bel.os, hf.tape.trans h.bel.tape, hf.output.trans h.bel.output, Nat.le_trans h.bel.size hf.size, fun k hk => (hf.block k (Nat.lt_of_lt_of_le hk h.bel.size) (by have := h.ge; omega)).trans (h.bel.block k hk)⟩
theorem PJ.below {w : World} {bx sb g2 : Nat} {vo : Value} {M : Nat} {ord : List Int} {ps : List Pg} {W W' : World} (h : PJ w bx sb g2 vo M ord ps W) (hb : Below W.heap.size W W') : PJ w bx sb g2 vo M ord ps W' := by
  obtain ⟨cs, hg, hi⟩ := h.pgs
  exact h.step (Frm.of_below hb) ⟨cs, (hb.block _ (lt_of_block hg)).trans hg, hi⟩
theorem promote_nil (w : World) : Calls Try.prog 43 #[.pointer none] w fun e w' => e = .returned (.tuple #[.slice none 0 0, .int .i64 10]) ∧ Below w.heap.size w w' := by
  go_enter Try.func43, Try.ntmps43
  go_wp2_with fail
  go_ret2
  exact ⟨rfl, (Below.refl _ w).alloc (Nat.le_refl _) _⟩
end Go.Proofs.Ytepkonhgkabkcaa
