/- Package judge: Faults. No condition. -/
import Derived.Test.YtepkonhgkabkcaaJbeg
namespace Go.Proofs.Ytepkonhgkabkcaa
open Go.RowKit Go.Maps MapI
set_option linter.unusedVariables false
set_option linter.unusedSimpArgs false

abbrev En := Int × Rc
def stepJ (s : JSt) (x : En) : JSt × Bool := entryJ s x.1 x.2
def runJ (s : JSt) (l : List En) : JSt := l.foldl (fun s x => (stepJ s x).1) s
def fltJ (s : JSt) : List En → List En
  | [] => []
  | x :: r => (if (stepJ s x).2 then [] else [x]) ++ fltJ (stepJ s x).1 r
theorem runJ_snoc (s : JSt) (l : List En) (x : En) : runJ s (l ++ [x]) = (stepJ (runJ s l) x).1 := by simp [runJ]
theorem fltJ_append : ∀ (s : JSt) (l m : List En), fltJ s (l ++ m) = fltJ s l ++ fltJ (runJ s l) m
  | s, [], m => rfl
  | s, x :: r, m => by
    simp only [List.cons_append, fltJ, List.append_assoc]
    rw [fltJ_append]
    rfl
theorem fltJ_snoc (s : JSt) (l : List En) (x : En) : fltJ s (l ++ [x]) = fltJ s l ++ (if (stepJ (runJ s l) x).2 then [] else [x]) := by
  rw [fltJ_append]; simp [fltJ]
theorem fltJ_length : ∀ (s : JSt) (l : List En), (fltJ s l).length ≤ l.length
  | s, [] => Nat.le_refl _
  | s, x :: r => by
    have := fltJ_length (stepJ s x).1 r
    simp only [fltJ, List.length_append, List.length_cons]
    split <;> simp <;> omega
theorem run_small : ∀ (l : List En) {s : JSt} {i : Nat}, Small s i → Small (runJ s l) (i + l.length)
  | [], s, i, h => h
  | x :: r, s, i, h => by
    have := run_small r (entry_small (a := x.1) (r := x.2) h)
    rw [List.length_cons, show i + (r.length + 1) = i + 1 + r.length from by omega]
    exact this
structure EnOk (x : En) : Prop where
  wf : (Lit.int .i64 x.1).wf = true
  rec_ : RcOk x.2
/-- A row of entries at an address. -/
def EnsAt (w : World) (b o : Nat) (es : List En) : Prop := ∀ i x, es[i]? = some x → EntAt w b (o + i * 12) x.1 x.2
/-- A slice of entries: where it is not empty, it lies at an address. -/
structure Lst (w : World) (A : Option Addr) (b o : Nat) (es : List En) : Prop where
  addr : es ≠ [] → A = some ⟨b, o, none⟩
  lt : es ≠ [] → b < w.heap.size
  at_ : EnsAt w b o es
theorem Lst.below {w w' : World} {A : Option Addr} {b o : Nat} {es : List En} (h : Lst w A b o es) (hb : Below w.heap.size w w') : Lst w' A b o es :=
  ⟨h.addr, fun hne => Nat.lt_of_lt_of_le (h.lt hne) hb.size, fun i x hx => (h.at_ i x hx).of_block (hb.block _ (h.lt (by intro e; rw [e] at hx; simp at hx)))⟩
theorem Lst.ne {es : List En} {i : Nat} (h : i < es.length) : es ≠ [] := by intro e; rw [e] at h; simp at h
def enCells (l : List En) : List Value := l.flatMap fun x => .int .i64 x.1 :: rcCells x.2
theorem enCells_length (l : List En) : (enCells l).length = l.length * 12 := by
  unfold enCells
  induction l with
  | nil => rfl
  | cons p r ih =>
    rw [List.flatMap_cons, List.length_append, ih]
    simp [rcCells]; omega
def zeroEn : Value := .agg #[.int .i64 0, .int .i64 0, .int .i64 0, .int .i64 0, .int .i64 0, .int .i64 0, .int .i64 0, .int .i64 0, .string ⟨#[]⟩, .string ⟨#[]⟩, .slice none 0 0, .slice none 0 0]
theorem infoEn : (Try.prog.info? 32).map (fun i => (i.zero, i.size, i.bytes)) = some (some zeroEn, 12, 144) := by kernel_rfl
theorem EntAt.cells {w : World} {b o : Nat} {a : Int} {r : Rc} (h : EntAt w b o a r) : w.cell? ⟨b, o, none⟩ = some (.int .i64 a) ∧ w.cell? ⟨b, o + 1, none⟩ = some (.int .i64 r.kind) ∧ w.cell? ⟨b, o + 2, none⟩ = some (.int .i64 r.txn) ∧ w.cell? ⟨b, o + 3, none⟩ = some (.int .i64 r.page) ∧
    w.cell? ⟨b, o + 4, none⟩ = some (.int .i64 r.off) ∧ w.cell? ⟨b, o + 5, none⟩ = some (.int .i64 r.prev) ∧ w.cell? ⟨b, o + 6, none⟩ = some (.int .i64 r.next) ∧ w.cell? ⟨b, o + 7, none⟩ = some (.int .i64 r.begin_) ∧ w.cell? ⟨b, o + 8, none⟩ = some (.string r.before) ∧ w.cell? ⟨b, o + 9, none⟩ = some (.string r.after) ∧
    w.cell? ⟨b, o + 10, none⟩ = some r.txns ∧ w.cell? ⟨b, o + 11, none⟩ = some r.pages :=
  ⟨h.1, h.2 0 _ rfl, h.2 1 _ rfl, h.2 2 _ rfl, h.2 3 _ rfl, h.2 4 _ rfl, h.2 5 _ rfl, h.2 6 _ rfl, h.2 7 _ rfl, h.2 8 _ rfl, h.2 9 _ rfl, h.2 10 _ rfl⟩
def FltPost (w : World) (es : List En) (e : Ending) (w' : World) : Prop :=
  ∃ v, e = .returned v ∧ w'.ownsRow w.heap.size 32 12 v (fltJ st0 es).length (enCells (fltJ st0 es)) ∧ Below w.heap.size w w'
/-- Rows of entries may turn: the judge is as it was. -/
theorem Jud.other {w w' : World} {B jb mb gb : Nat} {l : List (Int × JEnt)} {fv : Value} {s : JSt} (h : Jud w B jb mb gb l fv s) (hk : ∀ k, k < w.heap.size → (¬ ∃ cs, w.heap[k]? = some (.cells cs 32 (0, 0))) → w'.heap[k]? = w.heap[k]?) : Jud w' B jb mb gb l fv s := by
  obtain ⟨cs, h1, _⟩ := h.blk.cs
  obtain ⟨es, c, hm⟩ := h.map.heap
  obtain ⟨es', c', hm'⟩ := h.beg.heap
  have hc : ∀ (k : Nat) (cs : Array Value) (t : Nat), t ≠ 32 → w.heap[k]? = some (.cells cs t (0, 0)) → w'.heap[k]? = w.heap[k]? := fun k cs t ht hkk => hk k (lt_of_block hkk) fun ⟨cs', h2⟩ => type_ne hkk h2 ht rfl
  exact ⟨h.hB, h.hmb, h.hgb, h.hmg, h.blk.of_block (hc _ _ _ (by decide) h1), h.map.of_block (hk _ h.map.lt fun ⟨cs', h2⟩ => map_ne hm h2 rfl), h.beg.of_block (hk _ h.beg.lt fun ⟨cs', h2⟩ => map_ne hm' h2 rfl),
    h.ents.typed (fun k cs t hT hkk => hc k cs t (by rcases hT with rfl | rfl <;> decide) hkk), h.opn, h.out.typed (fun k cs t hT hkk => hc k cs t (by rcases hT with rfl | rfl <;> decide) hkk)⟩
theorem own_typeR {w : World} {B : Nat} {t s n : Nat} {v : Value} {xs : List Value} (h : w.ownsRow B t s v n xs) {k : Nat} (hk : v.ownBlock = some k) : ∃ cur, w.heap[k]? = some (.cells cur t (0, 0)) := by
  rcases h.2 with ⟨rfl, _⟩ | ⟨g, cap, cur, rfl, _, hh, _⟩
  · simp [Value.ownBlock] at hk
  · have : g = k := by simpa [Value.ownBlock] using hk
    subst this; exact ⟨cur, hh⟩
set_option maxHeartbeats 2000000 in
set_option maxRecDepth 100000 in
theorem faults_calls {w : World} {A : Option Addr} {b o c : Nat} {es : List En} (hL : Lst w A b o es) (hok : ∀ x ∈ es, EnOk x) (hlen : es.length ≤ 100000) :
    Calls Try.prog 15 #[.slice A es.length c] w (FltPost w es) := by
  obtain ⟨i0, hi, hz0, hz1, hz2⟩ := info_parts infoEn
  go_enter Try.func15, Try.ntmps15
  go_wp2_with (first | (go_at_call 53; refine (begin_calls _).mono ?_; rintro e w1 ⟨rfl, hJ, b1⟩))
  go_loopg [8, 2] es.length (fun k iv rv wr => ∃ i : Nat, i + k = es.length ∧ iv = .int .i64 i ∧ JAt wr w.heap.size (w.heap.size + 2) w.heap.size (w.heap.size + 1) fv0 (runJ st0 (es.take i)) ∧ Below w.heap.size w wr ∧
    wr.ownsRow w.heap.size 32 12 rv (fltJ st0 (es.take i)).length (enCells (fltJ st0 (es.take i))))
  case atStart => exact ⟨0, by omega, rfl, hJ, b1, World.ownsRow_nil _ _ _ _⟩
  case round =>
    obtain ⟨wo, rfl⟩ : ∃ wo : World, wo = wr := ⟨_, rfl⟩
    obtain ⟨ko, rfl⟩ : ∃ ko : Nat, ko = gk := ⟨_, rfl⟩
    obtain ⟨i, hin, rfl, hJo, hbo, hown⟩ := hrel
    clear hJ b1
    by_cases hlt : i < es.length
    · have hA := hL.addr (Lst.ne hlt)
      subst hA
      have hb := hL.lt (Lst.ne hlt)
      have h := hL.at_
      obtain ⟨x, hx⟩ : ∃ x, es[i]? = some x := ⟨_, List.getElem?_eq_getElem hlt⟩
      have hxo := hok x (List.mem_of_getElem? hx)
      have hEa : EntAt wo b (o + i * 12) x.1 x.2 := (h i x hx).of_block (hbo.block _ hb)
      have hz := hbo.size
      have hsm : Small (runJ st0 (es.take i)) 100000 := (run_small (es.take i) small0).mono (by simp; omega)
      have htk : es.take (i + 1) = es.take i ++ [x] := by rw [List.take_add_one, hx]; rfl
      have HC := Lib.hid (entry_calls hJo hz hEa hb hxo.rec_ hxo.wf hsm)
      have e1 : (fltJ st0 (es.take (i + 1))) = fltJ st0 (es.take i) ++ (if (entryJ (runJ st0 (es.take i)) x.1 x.2).2 then [] else [x]) := by rw [htk, fltJ_snoc]; rfl
      have e2 : runJ st0 (es.take (i + 1)) = (entryJ (runJ st0 (es.take i)) x.1 x.2).1 := by rw [htk, runJ_snoc]; rfl
      have hfl : (fltJ st0 (es.take i)).length ≤ 100000 := Nat.le_trans (fltJ_length _ _) (by simp; omega)
      have b2 : (0 : Int) ≤ (i : Int) := by omega
      have b3 : (i : Int) < (es.length : Int) := by omega
      obtain ⟨y, hy⟩ : ∃ y, y = (entryJ (runJ st0 (es.take i)) x.1 x.2).2 := ⟨_, rfl⟩
      have HC2 := Lib.hid (show Calls Try.prog 54 #[.pointer (some ⟨w.heap.size + 2, 0, none⟩), .pointer (some ⟨b, o + i * 12, none⟩)] wo fun e w' => e = .returned (.bool y) ∧ JAt w' w.heap.size (w.heap.size + 2) w.heap.size (w.heap.size + 1) fv0 (entryJ (runJ st0 (es.take i)) x.1 x.2).1 ∧ Foot w.heap.size wo w' from by rw [hy]; exact HC.out)
      rw [← hy] at e1
      have HE1 := Lib.hid e1
      have HE2 := Lib.hid e2
      have HOW := Lib.hid hown
      clear HC e1 e2 hx htk hy hJo hown
      cases y
      · go_wp2_with (first
          | (go_at_call 54; refine HC2.out.mono ?_; rintro e w2 ⟨rfl, hJ2, hf2⟩; have hE2 := (hEa.of_block (hf2.block _ hb)).cells; obtain ⟨d0, d1, d2, d3, d4, d5, d6, d7, d8, d9, d10, d11⟩ := hE2; have how2 := ownsRow_block HOW.out (fun k hk => by obtain ⟨cur, hc⟩ := own_typeR HOW.out hk; exact hf2.kept k cur _ rfl hc); have hz2' := hf2.size)
          | (at_builtin; refine wpList_append_lies _ rfl (.tmp 17) (.tmp 22) 22 rfl w.heap.size 32 i0 zeroEn 12 144 Try.underlying22 hi hz0 hz1 hz2 rfl (by decide) _ _ _ rfl (how2.alloc _) ⟨w2.heap.size, 0, none⟩ 1 1 (.int .i64 x.1 :: rcCells x.2) rfl rfl (World.news_of_block (heap_alloc_new w2 _)) (by obtain ⟨_, _, _, q1⟩ := hxo.rec_.tx1; obtain ⟨_, _, _, q2⟩ := hxo.rec_.pg1; simp [rcCells, q1, q2, Value.oneCell']) (by decide) (by unfold maxLen; omega) (by omega) (by simp; omega) _ rfl ?_; intro g2 cap2 w3 hown3 hg3 hat3 hlt3))
        go_roundg (ko - 1)
        case measure => omega
        case rel =>
          have hst : Below w.heap.size w w3 := ((hbo.trans hf2.toBelow).alloc (by omega) _).grown hg3 (by simp; omega) (fun k hk => (how2.lt k hk).1)
          refine ⟨i + 1, by omega, by go_num, ?_, hst, ?_⟩
          · rw [HE2.out]
            obtain ⟨l9, hl9⟩ := hJ2
            refine ⟨l9, hl9.other fun k hk hne => ?_⟩
            refine (hg3.block k (by simp; omega) fun e1 => ?_).trans (Below.heap_alloc _ _ _ hk)
            obtain ⟨cur, hc⟩ := own_typeR how2 e1.symm
            exact hne ⟨cur, hc⟩
          · rw [HE1.out]
            have e3 : enCells (fltJ st0 (es.take i) ++ [x]) = enCells (fltJ st0 (es.take i)) ++ (.int .i64 x.1 :: rcCells x.2) := by simp [enCells]
            simpa [e3] using hown3
      · go_wp2_with (first | (go_at_call 54; refine HC2.out.mono ?_; rintro e w2 ⟨rfl, hJ2, hf2⟩))
        go_roundg (ko - 1)
        case measure => omega
        case rel =>
          refine ⟨i + 1, by omega, by go_num, by rw [HE2.out]; exact hJ2, hbo.trans hf2.toBelow, ?_⟩
          rw [HE1.out]
          simp only [if_true, List.append_nil]
          exact ownsRow_block HOW.out (fun k hk => by obtain ⟨cur, hc⟩ := own_typeR HOW.out hk; exact hf2.kept k cur _ rfl hc)
    · have hi2 : i = es.length := by omega
      subst hi2
      rw [List.take_of_length_le (Nat.le_refl _)] at hown
      go_wp2_with fail
      go_ret
      exact ⟨_, rfl, hown, hbo⟩
end Go.Proofs.Ytepkonhgkabkcaa
