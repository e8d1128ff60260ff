/- JudgeFew, plainly: never more undos than changes in a log without faults. No condition. -/
import Derived.Test.YtepkonhgkabkcaaJawk
namespace Go.Proofs.Ytepkonhgkabkcaa
open Go.RowKit Go.Maps MapI
set_option linter.unusedVariables false
set_option linter.unusedSimpArgs false

def cnt (k n : Int) (l : List En) : Nat := (l.filter fun x => x.2.kind == k && x.2.txn == n).length
theorem cnt_snoc (k n : Int) (l : List En) (x : En) : cnt k n (l ++ [x]) = cnt k n l + (if x.2.kind = k ∧ x.2.txn = n then 1 else 0) := by
  unfold cnt
  rw [List.filter_append, List.length_append]
  by_cases h : x.2.kind = k ∧ x.2.txn = n
  · rw [if_pos h]; simp [h.1, h.2]
  · rw [if_neg h]
    have : (x.2.kind == k && x.2.txn == n) = false := by
      rw [Bool.and_eq_false_iff]
      by_cases h1 : x.2.kind = k
      · exact .inr (by simpa using fun h2 => h ⟨h1, h2⟩)
      · exact .inl (by simpa using h1)
    simp [this]
theorem cnt_le (k n : Int) (l : List En) : cnt k n l ≤ l.length := List.length_filter_le _ _
def openN (s : JSt) (n : Int) : Nat := ((get n s.opn).map fun t => t.stand.length).getD 0
theorem openT_len (s : JSt) (a : Int) (r : Rc) : (openT s a r).stand.length = openN s r.txn := by
  unfold openT openN
  cases get r.txn s.opn <;> rfl
theorem openN_put (s : JSt) (n m : Int) (t : JTx) (o : List (Int × JTx)) (h : o = MapI.put m t s.opn) : ((get n o).map fun t => t.stand.length).getD 0 = if n = m then t.stand.length else openN s n := by
  subst h
  by_cases e : n = m
  · subst e; rw [if_pos rfl, get_put_same]; rfl
  · rw [if_neg e, get_put_other e]; rfl
theorem openN_del (s : JSt) (n m : Int) : ((get n (MapI.del m s.opn)).map fun t => t.stand.length).getD 0 ≤ openN s n := by
  by_cases e : n = m
  · subst e; rw [get_del_same]; exact Nat.zero_le _
  · rw [get_del_other e]; exact Nat.le_refl _
def FewInv (l : List En) : Prop := ∀ n, openN (runJ st0 l) n + cnt 2 n l ≤ cnt 1 n l
theorem fewInv_nil : FewInv [] := fun n => Nat.le_refl 0
theorem fewInv_step {l : List En} {x : En} (h : FewInv l) (hok : (stepJ (runJ st0 l) x).2 = true) : FewInv (l ++ [x]) := by
  intro n
  have hn := h n
  rw [cnt_snoc, cnt_snoc, runJ_snoc]
  have hT := openT_len (lastJ (runJ st0 l) x.1) x.1 x.2
  have hO : openN (lastJ (runJ st0 l) x.1) = openN (runJ st0 l) := rfl
  unfold stepJ entryJ at hok ⊢
  by_cases hk : x.2.kind = 1 ∨ x.2.kind = 2 ∨ x.2.kind = 3 ∨ x.2.kind = 4
  · rw [if_pos hk] at hok ⊢
    simp only [Bool.and_eq_true] at hok
    have hok1 := hok.1
    unfold ownJ at hok1 ⊢
    by_cases h1 : x.2.kind = 1
    · rw [if_pos h1]
      unfold openN
      dsimp only
      rw [openN_put (lastJ (runJ st0 l) x.1) n x.2.txn _ _ rfl]
      rw [h1]
      by_cases e : n = x.2.txn
      · subst e
        rw [if_pos rfl]
        simp only [List.length_append, List.length_cons, List.length_nil, hT, hO]
        simp; omega
      · rw [if_neg e, hO, if_neg (fun hh => e hh.2.symm), if_neg (fun hh => e hh.2.symm)]
        exact hn
    · rw [if_neg h1] at hok1 ⊢
      by_cases h2 : x.2.kind = 2
      · rw [if_pos h2] at hok1 ⊢
        simp only [Bool.and_eq_true] at hok1
        have hu := hok1.1
        unfold openN
        dsimp only
        rw [openN_put (lastJ (runJ st0 l) x.1) n x.2.txn _ _ rfl]
        rw [h2]
        by_cases e : n = x.2.txn
        · subst e
          have hpos : 0 < (openT (lastJ (runJ st0 l) x.1) x.1 x.2).stand.length := by
            unfold undoneOk at hu
            cases hl : (openT (lastJ (runJ st0 l) x.1) x.1 x.2).stand with
            | nil => rw [hl] at hu; simp at hu
            | cons a b => simp
          rw [if_pos rfl]
          simp only [List.length_dropLast, hT, hO] at hpos ⊢
          simp; omega
        · rw [if_neg e, hO, if_neg (fun hh => e hh.2.symm), if_neg (fun hh => e hh.2.symm)]
          exact hn
      · have k2 : (if x.2.kind = 2 ∧ x.2.txn = n then 1 else 0) = 0 := if_neg (fun hh => h2 hh.1)
        have k1 : (if x.2.kind = 1 ∧ x.2.txn = n then 1 else 0) = 0 := if_neg (fun hh => h1 hh.1)
        rw [if_neg h2, k2, k1]
        have hd := openN_del (lastJ (runJ st0 l) x.1) n x.2.txn
        rw [hO] at hd
        by_cases h4 : x.2.kind = 4
        · rw [if_pos h4]
          unfold openN at hn hd ⊢
          dsimp only at hd ⊢
          omega
        · rw [if_neg h4]
          unfold openN at hn hd ⊢
          dsimp only at hd ⊢
          omega
  · have k2 : (if x.2.kind = 2 ∧ x.2.txn = n then 1 else 0) = 0 := if_neg (fun hh => hk (.inr (.inl hh.1)))
    have k1 : (if x.2.kind = 1 ∧ x.2.txn = n then 1 else 0) = 0 := if_neg (fun hh => hk (.inl hh.1))
    rw [if_neg hk, k2, k1]
    by_cases h5 : x.2.kind = 5
    · rw [if_pos h5]; exact hn
    · rw [if_neg h5]
      by_cases h6 : x.2.kind = 6
      · rw [if_pos h6]; exact hn
      · rw [if_neg h6]; exact hn
theorem flt_take {es : List En} (h : fltJ st0 es = []) (i : Nat) : fltJ st0 (es.take i) = [] := by
  have := fltJ_append st0 (es.take i) (es.drop i)
  rw [List.take_append_drop, h] at this
  exact (List.append_eq_nil_iff.1 this.symm).1
theorem flt_ok {es : List En} (h : fltJ st0 es = []) {i : Nat} {x : En} (hx : es[i]? = some x) : (stepJ (runJ st0 (es.take i)) x).2 = true := by
  have h1 := flt_take h (i + 1)
  rw [List.take_add_one, hx] at h1
  simp only [Option.toList_some] at h1
  rw [fltJ_snoc] at h1
  have h2 := (List.append_eq_nil_iff.1 h1).2
  split at h2
  · assumption
  · cases h2
theorem few_law {es : List En} (h : fltJ st0 es = []) : ∀ i, FewInv (es.take i)
  | 0 => fewInv_nil
  | i + 1 => by
    cases hx : es[i]? with
    | none =>
      rw [List.take_add_one, hx]
      simpa using few_law h i
    | some x =>
      rw [List.take_add_one, hx]
      exact fewInv_step (few_law h i) (flt_ok h hx)
end Go.Proofs.Ytepkonhgkabkcaa
